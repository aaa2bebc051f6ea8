/- The machine in use: a call's contract; the steps of a proof. -/
import Derived.Test.YtglafgpjgkphkaaGreatDoorMo
import Derived.Test.YtglafgpjgkphkaaGreatDoorNew
import Derived.Test.YtglafgpjgkphkaaGreatDoorDf
set_option linter.unusedVariables false
set_option linter.unusedSimpArgs false
namespace Go.Proofs.YtglafgpjgkphkaaGreatDoor
open Go.RowKit

def runF (c : Ctx) (fr : Fr) (mem : Mem) (todo : List Task) : Node :=
  forceMem mem fun mem => match fr with
    | [] => run c 100000 [] mem todo
    | x :: xs => run c 100000 (x :: xs) mem todo

def putF (dst : Option Nat) (r : SV) (fr : Fr) : Fr := match dst with | none => fr | some d => (d, r) :: fr
def dstOk (c : Ctx) (dst : Option Nat) : Bool := match dst with | none => true | some d => Nat.blt d c.N

section
variable {c : Ctx} {Q : SExit → Fr → Mem → List Nat → World → Prop} {ids : List Nat} {fr : Fr} {mem : Mem} {todo : List Task}

theorem runF_eq : runF c fr mem todo = run c 100000 fr mem todo := by
  unfold runF
  rw [forceMem_eq]
  cases fr <;> rfl
theorem st {node : Node} (h : runF c fr mem todo = node) (hn : satN c Q node ids) : satS c Q ⟨fr, mem, todo⟩ ids := by
  rw [runF_eq] at h
  exact satS_iff.2 (run_ok _ _ _ _ (h ▸ satN_iff.1 hn))
theorem putK_eq {dst : Option Nat} {r : SV} {k : Fr → Tree} (h : dstOk c dst = true) : putK c dst r fr k = k (putF dst r fr) := by
  unfold putK
  simp only [forceSV_eq]
  cases dst with
  | none => rfl
  | some d => simp only [dstOk] at h; simp only [h, putF]

theorem n_br {b : Bool} {s t : St} (hs : b = true → satS c Q s ids) (ht : b = false → satS c Q t ids) : satN c Q (.br b s t) ids := satN_iff.2 ⟨hs, ht⟩
theorem n_brT {b : Bool} {s t : St} (hb : b = true) (hs : satS c Q s ids) : satN c Q (.br b s t) ids := by subst hb; exact n_br (fun _ => hs) (fun h => by cases h)
theorem n_brF {b : Bool} {s t : St} (hb : b = false) (ht : satS c Q t ids) : satN c Q (.br b s t) ids := by subst hb; exact n_br (fun h => by cases h) (fun _ => ht)
theorem n_both {s t : St} (hs : satS c Q s ids) (ht : satS c Q t ids) : satN c Q (.both s t) ids := satN_iff.2 ⟨hs, ht⟩
theorem n_must {b : Bool} {s : St} (hb : b = true) (hs : satS c Q s ids) : satN c Q (.must b s) ids := satN_iff.2 ⟨hb, hs⟩
theorem n_chk {b : Bool} {s : St} (hb : b = true) (hs : satS c Q s ids) : satN c Q (.chk b s) ids := satN_iff.2 ⟨hb, hs⟩
theorem n_same {x y : SV} {s : St} (hb : x = y) (hs : satS c Q s ids) : satN c Q (.same x y s) ids := satN_iff.2 ⟨hb, hs⟩
theorem n_fin {x : SExit} (h : ∀ ids' w', ids <+: ids' → Inv c w' ids' mem → Q x fr mem ids' w') : satN c Q (.fin x fr mem) ids := satN_iff.2 h

theorem n_ret {rs : List ResultVar} {R : Ending → World → Prop} {r : SV} (hr : retSV c rs fr mem = some r) (h : ∀ ids' w', ids <+: ids' → Inv c w' ids' mem → ∃ v, den ids' r = some v ∧ R (.returned v) w') :
    satN c (retQ c rs R) (.fin .ret fr mem) ids := satN_iff.2 (sat_ret hr h)
theorem n_end {rs : List ResultVar} {R : Ending → World → Prop} {r : SV} (hr : retSV c rs fr mem = some r) (h : ∀ ids' w', ids <+: ids' → Inv c w' ids' mem → ∃ v, den ids' r = some v ∧ R (.returned v) w') :
    satN c (retQ c rs R) (.fin .normal fr mem) ids := satN_iff.2 (sat_end hr h)
theorem n_ret0 {rs : List ResultVar} {R : Ending → World → Prop} {r : SV} {v : Value} (hr : retSV c rs fr mem = some r) (hv : den ids r = some v) (h : ∀ ids' w', ids <+: ids' → Inv c w' ids' mem → R (.returned v) w') :
    satN c (retQ c rs R) (.fin .ret fr mem) ids := satN_iff.2 (sat_ret0 hr hv h)
theorem n_end0 {rs : List ResultVar} {R : Ending → World → Prop} {r : SV} {v : Value} (hr : retSV c rs fr mem = some r) (hv : den ids r = some v) (h : ∀ ids' w', ids <+: ids' → Inv c w' ids' mem → R (.returned v) w') :
    satN c (retQ c rs R) (.fin .normal fr mem) ids := satN_iff.2 (sat_end0 hr hv h)

/-- What a place of memory that is not named holds. -/
theorem n_ld {t : TypeId} {ad : Addr} {dst : Option Nat} (r : SV) {v : Value} (hd : dstOk c dst = true) (hv : den ids r = some v) (hl : ∀ w, Frm c.S c.w0 w → (loadVar t ad).run c.P w = .ok v w)
    (h : satS c Q ⟨putF dst r fr, mem, todo⟩ ids) : satN c Q (.ld t ad dst ⟨fr, mem, todo⟩) ids :=
  satN_iff.2 (sat_ld r hv hl (by rw [putK_eq hd]; exact satS_iff.1 h))
theorem n_ldD {t : TypeId} {ad : Addr} {i : Nat} {o : Oper} {all : List Oper} {ord : Odr} {rs : List Rec} (r : SV) {v : Value} (hd : dstOk c o.dst = true) (hv : den ids r = some v)
    (hl : ∀ w, Frm c.S c.w0 w → (loadVar t ad).run c.P w = .ok v w) (h : satS c Q ⟨putF o.dst r fr, mem, .draw all ord (⟨i, fr, o, r⟩ :: rs) :: todo⟩ ids) : satN c Q (.ldD t ad i o ⟨fr, mem, .draw all ord rs :: todo⟩) ids :=
  satN_iff.2 (sat_ld r hv hl (by rw [putK_eq hd]; exact satS_iff.1 h))
theorem n_ldR {t : TypeId} {ad : Addr} {s : St} (r : SV) {v : Value} (hv : den ids r = some v) (hl : ∀ w, Frm c.S c.w0 w → (loadVar t ad).run c.P w = .ok v w) (h : satS c Q s ids) : satN c Q (.ldR t ad r s) ids :=
  satN_iff.2 (sat_ld r hv hl ⟨rfl, satS_iff.1 h⟩)

/-! ### Calls -/
def CallEndS (c : Ctx) (Q : SExit → Fr → Mem → List Nat → World → Prop) (dst : Option Nat) (fr : Fr) (todo : List Task) (ids' : List Nat) : Ending → World → Prop := fun e w2 =>
  ∃ r v mem2 ids2, e = .returned v ∧ den ids2 r = some v ∧ ids' <+: ids2 ∧ Inv c w2 ids2 mem2 ∧ satS c Q ⟨putF dst r fr, mem2, todo⟩ ids2
theorem n_call {f : FuncId} {args : List SV} {vs : List Value} {dst : Option Nat} (hd : dstOk c dst = true) (hv : denL ids args = some vs)
    (h : ∀ ids' w, ids <+: ids' → Inv c w ids' mem → Calls c.P f vs.toArray w (CallEndS c Q dst fr todo ids')) : satN c Q (.call f args dst ⟨fr, mem, todo⟩) ids :=
  satN_iff.2 fun ids' w vs' hp hI hv' => by
    rw [denL_mono hp _ _ hv] at hv'; simp at hv'; subst hv'
    refine (h ids' w hp hI).mono ?_
    rintro e w2 ⟨r, v, mem2, ids2, h1, h2, h3, h4, h5⟩
    exact ⟨r, v, mem2, ids2, h1, h2, h3, h4, by dsimp only; rw [putK_eq hd]; exact satS_iff.1 h5⟩
/-- A call where all blocks have names. -/
theorem n_call0 {f : FuncId} {args : List SV} {vs : List Value} {dst : Option Nat} (hd : dstOk c dst = true) (hl : mem.length = ids.length) (hv : denL ids args = some vs)
    (h : ∀ w, Inv c w ids mem → Calls c.P f vs.toArray w (CallEndS c Q dst fr todo ids)) : satN c Q (.call f args dst ⟨fr, mem, todo⟩) ids :=
  n_call hd hv fun ids' w hp hI => by
    obtain rfl := ext0 hp (by rw [hI.len, hl])
    exact h w hI
/-- A call that writes nothing that was there. -/
theorem n_sameP {f : FuncId} {args : List SV} {vs : List Value} {dst : Option Nat} (r : SV) {v : Value} (hd : dstOk c dst = true) (hv : denL ids args = some vs) (hr : den ids r = some v)
    (h : ∀ ids' w, ids <+: ids' → Inv c w ids' mem → Calls c.P f vs.toArray w (fun e w2 => e = .returned v ∧ Frm [] w w2)) (hk : satS c Q ⟨putF dst r fr, mem, todo⟩ ids) : satN c Q (.call f args dst ⟨fr, mem, todo⟩) ids :=
  satN_iff.2 (sat_sameP r hv hr h (by rw [putK_eq hd]; exact satS_iff.1 hk))
/-- A call that writes one of the blocks. -/
theorem n_updP {f : FuncId} {args : List SV} {vs : List Value} {dst : Option Nat} (i : Nat) (r : SV) (cs : List SV) {v : Value} {b : SBlk} {n : Nat} {l : List Value} (hd : dstOk c dst = true) (hv : denL ids args = some vs) (hr : den ids r = some v)
    (hb : nth mem i = some b) (hn : ids[i]? = some n) (hrw : wrB b = true) (hc : denL ids cs = some l)
    (h : ∀ ids' w, ids <+: ids' → Inv c w ids' mem → Calls c.P f vs.toArray w (fun e w2 => e = .returned v ∧ Frm [n] w w2 ∧ Blk w2 n l.toArray b.ty)) (hk : satS c Q ⟨putF dst r fr, setCells mem i cs, todo⟩ ids) : satN c Q (.call f args dst ⟨fr, mem, todo⟩) ids :=
  satN_iff.2 (sat_updP i r cs hv hr hb hn hrw hc h (by rw [putK_eq hd]; exact satS_iff.1 hk))
/-- A call that leaves a new block. -/
theorem n_new {f : FuncId} {args : List SV} {vs : List Value} {dst : Option Nat} (r : SV) (b : SBlk) (v : Nat → Value) (l : List Value) (hd : dstOk c dst = true) (hl : mem.length = ids.length) (hv : denL ids args = some vs)
    (hr : ∀ n, den (ids ++ [n]) r = some (v n)) (hc : ∀ n, denL (ids ++ [n]) b.cells = some l)
    (h : ∀ w, Inv c w ids mem → Calls c.P f vs.toArray w (fun e w2 => ∃ n, w.heap.size ≤ n ∧ e = .returned (v n) ∧ Frm [] w w2 ∧ Blk w2 n l.toArray b.ty))
    (hk : ∀ n, c.w0.heap.size ≤ n → (∀ i b m, nth mem i = some b → resOf b = none → ids[i]? = some m → m ≠ n) → satS c Q ⟨putF dst r fr, mem ++ [b], todo⟩ (ids ++ [n])) : satN c Q (.call f args dst ⟨fr, mem, todo⟩) ids :=
  satN_iff.2 (sat_new r b v l hl hv hr hc h (fun n h1 h2 => by rw [putK_eq hd]; exact satS_iff.1 (hk n h1 h2)))

/-- A CALL OUT OF THE MACHINE. -/
theorem calls_sm (c : Ctx) {f : FuncId} {fn : Func} {code : Code} {vals : List SV} {args : List Value} {ids : List Nat} {mem : Mem} {R : Ending → World → Prop}
    (hm : c.P.follows .mixedOrders = true) (hf : c.P.funcs[f]? = some fn) (hb : fn.body = some code) (hN : c.N = fn.ntmps) (hl : Nat.ble args.length fn.ntmps = true)
    (hI : Inv c c.w0 ids mem) (hv : denL ids vals = some args) (h : satS c (retQ c fn.results.toList R) ⟨enum vals 0, mem, [.code code]⟩ ids) : Calls c.P f args.toArray c.w0 R := by
  refine calls_sx c hm hf hb hN hl hI hv ?_
  have := satS_iff.1 h
  unfold treeOf at this
  rw [cont_code] at this
  exact this

/-! ### Loops -/
/-- The end of a round. -/
def roundQ (c : Ctx) (Q : SExit → Fr → Mem → List Nat → World → Prop) (todo : List Task) (N : Fr → Mem → Prop) : SExit → Fr → Mem → List Nat → World → Prop := fun x fr' mem' ids' w' =>
  match x with
  | .normal => N fr' mem'
  | .exit i => match popTo i todo with | some r => satS c Q ⟨fr', mem', r⟩ ids' | none => False
  | .ret => satN c Q (.fin .ret fr' mem') ids'

theorem n_loop {σ : Type} (F : σ → Fr) (M : σ → Mem) (J : σ → Prop) (μ : σ → Nat) (s0 : σ) {body : Code}
    (hm : c.P.follows .mixedOrders = true) (h0 : J s0) (hl : ∀ s, J s → ids.length = (M s).length) (hM : mem = M s0) (hF : FrSub (F s0) fr)
    (hd : ∀ s, J s → FrDen ids (F s) ∧ MemDen ids (M s))
    (round : ∀ s, J s → satS c (roundQ c Q todo fun fr' mem' => ∃ s', J s' ∧ μ s' < μ s ∧ FrSub (F s') fr' ∧ ∃ junk, mem' = M s' ++ junk) ⟨F s, M s, [.code body]⟩ ids) : satN c Q (.loop body ⟨fr, mem, todo⟩) ids := by
  refine satN_iff.2 (sat_loop F M J μ s0 hm h0 hl hM hF hd fun s hs => ?_)
  have h := satS_iff.1 (round s hs)
  unfold treeOf at h
  rw [cont_code] at h
  refine sat_impl ?_ _ h
  intro x fr' mem' ids' w' hw hq
  cases x with
  | normal =>
    obtain ⟨s', h1, h2, h3, h4⟩ := hq
    exact ⟨s', h1, h2, h3, h4, hw⟩
  | exit i =>
    simp only [roundQ] at hq
    dsimp only
    rw [cont_pop]
    split at hq
    · rename_i r hr
      simp only [hr]
      exact satS_iff.1 hq
    · exact hq.elim
  | ret =>
    simp only [roundQ] at hq
    dsimp only
    rw [cont_ret]
    exact satN_iff.1 hq
end
end Go.Proofs.YtglafgpjgkphkaaGreatDoor
