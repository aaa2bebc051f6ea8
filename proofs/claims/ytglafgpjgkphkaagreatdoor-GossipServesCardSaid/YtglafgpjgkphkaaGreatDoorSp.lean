/- The reckoner in use: a call's contract out of a tree; the steps of a proof over a tree; loops. -/
import Derived.Test.YtglafgpjgkphkaaGreatDoorSo
import Derived.Deep.LoopGhost
namespace Go.Proofs.YtglafgpjgkphkaaGreatDoor
open Go.RowKit

def resL (c : Ctx) (fr : Fr) (mem : Mem) : List ResultVar → Option (List SV)
  | [] => some []
  | .tmp t :: r => match has fr t with
    | true => match resL c fr mem r with | some l => some (look fr t :: l) | none => none
    | false => none
  | .cell t ty :: r => match has fr t with
    | true => match look fr t with
      | .ptr i o => match blkAt mem i with
        | some b => match partEv c.P ty b.cells o with
          | some v => match resL c fr mem r with | some l => some (v :: l) | none => none
          | none => none
        | none => none
      | _ => none
    | false => none

def retSV (c : Ctx) (rs : List ResultVar) (fr : Fr) (mem : Mem) : Option SV :=
  match resL c fr mem rs with
  | some [x] => some x
  | some l => some (.tup l)
  | none => none

def retQ (c : Ctx) (rs : List ResultVar) (R : Ending → World → Prop) : SExit → Fr → Mem → List Nat → World → Prop := fun x fr mem ids w =>
  match x with
  | .exit _ => False
  | _ => ∃ r v, retSV c rs fr mem = some r ∧ den ids r = some v ∧ R (.returned v) w

def enum : List SV → Nat → Fr
  | [], _ => []
  | x :: xs, n => (n, x) :: enum xs (n + 1)

section
variable {c : Ctx} {Q : SExit → Fr → Mem → List Nat → World → Prop} {ids ids1 : List Nat} {w : World} {a : Act} {fr : Fr} {mem : Mem}

def resM (t : Array Value) : ResultVar → Sem Value
  | .tmp i => pure (t.getD i Go.undef)
  | .cell b ty => do loadVar ty (← asAddr (t.getD b Go.undef))

theorem resL_ok (hI : Inv c w ids mem) (hF : FrOk c ids fr a) : ∀ {rs : List ResultVar} {l : List SV}, resL c fr mem rs = some l →
    ∃ vs, denL ids l = some vs ∧ (rs.mapM (resM a.tmps)).run c.P w = .ok vs w
  | [], l, h => by simp [resL] at h; subst h; exact ⟨[], rfl, by simp⟩
  | .tmp t :: r, l, h => by
    simp only [resL] at h
    split at h
    · rename_i hh
      split at h
      · rename_i l' hl
        simp at h; subst h
        obtain ⟨vs, hv, hr⟩ := resL_ok hI hF hl
        refine ⟨_, denL_mk (hF.at_ t hh) hv, ?_⟩
        have h1 : (resM a.tmps (.tmp t)).run c.P w = .ok (a.tmps.getD t Go.undef) w := rfl
        simp only [List.mapM_cons, Sem.run_bind, Sem.run_pure, Result.andThen_ok, hr, h1]
      · cases h
    · cases h
  | .cell t ty :: r, l, h => by
    simp only [resL] at h
    split at h
    · rename_i hh
      split at h
      · rename_i i o hlk
        have hat := hF.at_ t hh
        rw [hlk] at hat
        obtain ⟨n, hn, he⟩ := ptr_den hat
        split at h
        · rename_i b hb
          obtain ⟨n', lc, hn', hl', hblk⟩ := hI.blk _ _ (blkAt_eq hb).1 (blkAt_eq hb).2
          rw [hn] at hn'; simp at hn'; subst hn'
          split at h
          · rename_i v hp
            split at h
            · rename_i l' hl
              simp at h; subst h
              obtain ⟨u, hu, hrun⟩ := loadVar_blk (c := c) hblk hl' hp
              obtain ⟨vs, hv, hr⟩ := resL_ok hI hF hl
              refine ⟨_, denL_mk hu hv, ?_⟩
              have h1 : (resM a.tmps (.cell t ty)).run c.P w = .ok u w := by
                simp only [resM, he, asAddr, Sem.run_bind, Sem.run_pure, Result.andThen_ok, hrun]
              simp only [List.mapM_cons, Sem.run_bind, Sem.run_pure, Result.andThen_ok, hr, h1]
            · cases h
          · cases h
        · cases h
      · cases h
    · cases h

theorem results_ok (hI : Inv c w ids mem) (hF : FrOk c ids fr a) {fn : Func} {r : SV} (h : retSV c fn.results.toList fr mem = some r) :
    ∃ v, den ids r = some v ∧ (results fn a.tmps).run c.P w = .ok v w := by
  have e : results fn a.tmps = (do let vs ← fn.results.mapM (resM a.tmps); pure (if h : vs.size = 1 then vs[0] else .tuple vs)) := rfl
  rw [e]
  unfold retSV at h
  split at h
  · rename_i x hr
    simp at h; subst h
    obtain ⟨vs, hv, hrun⟩ := resL_ok hI hF hr
    obtain ⟨v, hv', rfl⟩ := denL_one hv
    refine ⟨v, hv', ?_⟩
    simp only [Array.mapM_eq_mapM_toList, Sem.run_bind, Sem.run_map, hrun, Result.andThen_ok]
    simp
  · rename_i l hne hr
    simp at h; subst h
    obtain ⟨vs, hv, hrun⟩ := resL_ok hI hF hr
    refine ⟨.tuple vs.toArray, by simp [den, hv], ?_⟩
    have hlen : vs.length ≠ 1 := by
      intro hl
      have := denL_len hv
      rw [hl] at this
      match l, this with
      | [x], _ => exact hne x rfl
    simp only [Array.mapM_eq_mapM_toList, Sem.run_bind, Sem.run_map, hrun, Result.andThen_ok]
    simp [hlen]
  · cases h

theorem enum_has : ∀ {xs : List SV} {n t : Nat}, has (enum xs n) t = true → n ≤ t ∧ nth xs (t - n) = some (look (enum xs n) t)
  | [], n, t, h => by simp [enum, has] at h
  | x :: xs, n, t, h => by
    simp only [enum, has, look] at h ⊢
    cases hb : Nat.beq n t with
    | true =>
      obtain rfl := Nat.eq_of_beq_eq_true hb
      simp [nth]
    | false =>
      simp only [hb] at h ⊢
      obtain ⟨h1, h2⟩ := enum_has h
      refine ⟨by omega, ?_⟩
      obtain ⟨m, hm⟩ : ∃ m, t - n = m + 1 := ⟨t - n - 1, by omega⟩
      rw [hm]
      have : t - (n + 1) = m := by omega
      rw [this] at h2
      exact h2

/-- A CALL OUT OF A TREE. -/
theorem calls_sx (c : Ctx) {f : FuncId} {fn : Func} {code : Code} {vals : List SV} {args : List Value} {ids : List Nat} {mem : Mem} {R : Ending → World → Prop}
    (hm : c.P.follows .mixedOrders = true) (hf : c.P.funcs[f]? = some fn) (hb : fn.body = some code) (hN : c.N = fn.ntmps) (hl : Nat.ble args.length fn.ntmps = true)
    (hI : Inv c c.w0 ids mem) (hv : denL ids vals = some args)
    (h : sat c (retQ c fn.results.toList R) (exec c code (enum vals 0) mem fun x fr mem => .fin x fr mem) ids) : Calls c.P f args.toArray c.w0 R := by
  replace hl := Nat.le_of_ble_eq_true hl
  refine calls_of_wp hf hb ?_
  have hF : FrOk c ids (enum vals 0) { tmps := args.toArray ++ Array.replicate (fn.ntmps - args.toArray.size) undef, defers := [] } := by
    refine ⟨by simp [hN]; omega, rfl, fun t ht => ?_⟩
    obtain ⟨_, h2⟩ := enum_has ht
    simp only [Nat.sub_zero] at h2
    obtain ⟨v, hv1, hv2⟩ := denL_nth hv h2
    rw [hv1]
    have htl := (List.getElem?_eq_some_iff.1 hv2).1
    have hv3 : args[t] = v := by have := List.getElem?_eq_getElem htl; rw [hv2] at this; simpa using this.symm
    simp [Array.getElem?_append, htl, hv3]
  refine exec_ok (Q := retQ c fn.results.toList R) hm (ids0 := ids) code ?_ (List.prefix_refl _) (List.prefix_refl _) hI hF h
  intro x fr' mem' idsk ids2 a' w' _ hs hp hF' hI'
  simp only [sat] at hs
  have hq := hs ids2 w' hp hI'
  have fin : ∀ r v, retSV c fn.results.toList fr' mem' = some r → den ids2 r = some v → R (.returned v) w' → a'.defers = [] ∧ ∃ v, (results fn a'.tmps).run c.P w' = .ok v w' ∧ R (.returned v) w' := by
    intro r v hr hd hR
    obtain ⟨v', hv', hrun⟩ := results_ok hI' hF' hr
    rw [hd] at hv'; simp at hv'; subst hv'
    exact ⟨hF'.defers, v, hrun, hR⟩
  cases x with
  | normal => obtain ⟨r, v, h1, h2, h3⟩ := hq; exact fin r v h1 h2 h3
  | ret => obtain ⟨r, v, h1, h2, h3⟩ := hq; exact fin r v h1 h2 h3
  | exit i => exact hq.elim

/-! ### Steps -/
theorem sat_br {b : Bool} {t f : Tree} (ht : b = true → sat c Q t ids) (hf : b = false → sat c Q f ids) : sat c Q (.br b t f) ids := ⟨ht, hf⟩
theorem sat_must {b : Bool} {t : Tree} (hb : b = true) (h : sat c Q t ids) : sat c Q (.must b t) ids := ⟨hb, h⟩
theorem sat_chk {b : Bool} {t : Tree} (hb : b = true) (h : sat c Q t ids) : sat c Q (.chk b t) ids := ⟨hb, h⟩
theorem sat_ret {rs : List ResultVar} {R : Ending → World → Prop} {r : SV} (hr : retSV c rs fr mem = some r) (h : ∀ ids' w', ids <+: ids' → Inv c w' ids' mem → ∃ v, den ids' r = some v ∧ R (.returned v) w') :
    sat c (retQ c rs R) (.fin .ret fr mem) ids := fun ids' w' hp hI => by
  obtain ⟨v, hv, hR⟩ := h ids' w' hp hI
  exact ⟨r, v, hr, hv, hR⟩
theorem sat_end {rs : List ResultVar} {R : Ending → World → Prop} {r : SV} (hr : retSV c rs fr mem = some r) (h : ∀ ids' w', ids <+: ids' → Inv c w' ids' mem → ∃ v, den ids' r = some v ∧ R (.returned v) w') :
    sat c (retQ c rs R) (.fin .normal fr mem) ids := fun ids' w' hp hI => by
  obtain ⟨v, hv, hR⟩ := h ids' w' hp hI
  exact ⟨r, v, hr, hv, hR⟩
/-- The result is known where the call began. -/
theorem sat_ret0 {rs : List ResultVar} {R : Ending → World → Prop} {r : SV} {v : Value} (hr : retSV c rs fr mem = some r) (hv : den ids r = some v) (h : ∀ ids' w', ids <+: ids' → Inv c w' ids' mem → R (.returned v) w') :
    sat c (retQ c rs R) (.fin .ret fr mem) ids := sat_ret hr fun ids' w' hp hI => ⟨v, den_mono hp _ _ hv, h ids' w' hp hI⟩
theorem sat_end0 {rs : List ResultVar} {R : Ending → World → Prop} {r : SV} {v : Value} (hr : retSV c rs fr mem = some r) (hv : den ids r = some v) (h : ∀ ids' w', ids <+: ids' → Inv c w' ids' mem → R (.returned v) w') :
    sat c (retQ c rs R) (.fin .normal fr mem) ids := sat_end hr fun ids' w' hp hI => ⟨v, den_mono hp _ _ hv, h ids' w' hp hI⟩
theorem sat_fin {x : SExit} (h : ∀ ids' w', ids <+: ids' → Inv c w' ids' mem → Q x fr mem ids' w') : sat c Q (.fin x fr mem) ids := h
theorem sat_ld {t : TypeId} {ad : Addr} {k : SV → Tree} (r : SV) {v : Value} (hv : den ids r = some v) (hl : ∀ w, Frm c.S c.w0 w → (loadVar t ad).run c.P w = .ok v w) (h : sat c Q (k r) ids) : sat c Q (.ld t ad mem k) ids :=
  ⟨r, fun _ w' hp hI => ⟨v, den_mono hp _ _ hv, hl w' hI.frm⟩, h⟩

def CallEnd (c : Ctx) (Q : SExit → Fr → Mem → List Nat → World → Prop) (k : SV → Mem → Tree) (ids' : List Nat) : Ending → World → Prop := fun e w2 =>
  ∃ r v mem2 ids2, e = .returned v ∧ den ids2 r = some v ∧ ids' <+: ids2 ∧ Inv c w2 ids2 mem2 ∧ sat c Q (k r mem2) ids2
theorem sat_call {f : FuncId} {args : List SV} {k : SV → Mem → Tree} (h : ∀ ids' w vs, ids <+: ids' → Inv c w ids' mem → denL ids' args = some vs → Calls c.P f vs.toArray w (CallEnd c Q k ids')) :
    sat c Q (.call f args mem k) ids := h
theorem ext0 {ids ids' : List Nat} (h : ids <+: ids') (hl : ids'.length = ids.length) : ids' = ids := by
  obtain ⟨r, rfl⟩ := h
  have : r = [] := by simpa using hl
  simp [this]
theorem ext1 {ids ids' : List Nat} (h : ids <+: ids') (hl : ids'.length = ids.length + 1) : ∃ n, ids' = ids ++ [n] := by
  obtain ⟨r, rfl⟩ := h
  match r, hl with
  | [n], _ => exact ⟨n, rfl⟩
  | [], hl => simp at hl
  | _ :: _ :: _, hl => simp at hl
theorem ext2 {ids ids' : List Nat} (h : ids <+: ids') (hl : ids'.length = ids.length + 2) : ∃ n m, ids' = ids ++ [n, m] := by
  obtain ⟨r, rfl⟩ := h
  match r, hl with
  | [n, m], _ => exact ⟨n, m, rfl⟩
  | [], hl => simp at hl
  | [_], hl => simp at hl
  | _ :: _ :: _ :: _, hl => simp at hl
/-- A call where all blocks have names. -/
theorem sat_call0 {f : FuncId} {args : List SV} {k : SV → Mem → Tree} {vs : List Value} (hl : mem.length = ids.length) (hv : denL ids args = some vs) (h : ∀ w, Inv c w ids mem → Calls c.P f vs.toArray w (CallEnd c Q k ids)) :
    sat c Q (.call f args mem k) ids := fun ids' w' vs' hp hI hv' => by
  obtain rfl := ext0 hp (by rw [hI.len, hl])
  rw [hv] at hv'; simp at hv'; subst hv'
  exact h w' hI
/-- One new block since the last names. -/
theorem sat_call1 {f : FuncId} {args : List SV} {k : SV → Mem → Tree} (hl : mem.length = ids.length + 1) (h : ∀ n w, Inv c w (ids ++ [n]) mem → ∃ vs, denL (ids ++ [n]) args = some vs ∧ Calls c.P f vs.toArray w (CallEnd c Q k (ids ++ [n]))) :
    sat c Q (.call f args mem k) ids := fun ids' w' vs' hp hI hv' => by
  obtain ⟨n, rfl⟩ := ext1 hp (by rw [hI.len, hl])
  obtain ⟨vs, hv, hc⟩ := h n w' hI
  rw [hv] at hv'; simp at hv'; subst hv'
  exact hc
theorem sat_call2 {f : FuncId} {args : List SV} {k : SV → Mem → Tree} (hl : mem.length = ids.length + 2) (h : ∀ n m w, Inv c w (ids ++ [n, m]) mem → ∃ vs, denL (ids ++ [n, m]) args = some vs ∧ Calls c.P f vs.toArray w (CallEnd c Q k (ids ++ [n, m]))) :
    sat c Q (.call f args mem k) ids := fun ids' w' vs' hp hI hv' => by
  obtain ⟨n, m, rfl⟩ := ext2 hp (by rw [hI.len, hl])
  obtain ⟨vs, hv, hc⟩ := h n m w' hI
  rw [hv] at hv'; simp at hv'; subst hv'
  exact hc
/-- A call that writes nothing that was there. -/
theorem sat_same {f : FuncId} {args : List SV} {k : SV → Mem → Tree} {vs : List Value} (r : SV) {v : Value} (hl : mem.length = ids.length) (hv : denL ids args = some vs) (hr : den ids r = some v)
    (h : ∀ w, Inv c w ids mem → Calls c.P f vs.toArray w (fun e w2 => e = .returned v ∧ Frm [] w w2)) (hk : sat c Q (k r mem) ids) : sat c Q (.call f args mem k) ids :=
  sat_call0 hl hv fun w hI => (h w hI).mono fun _ _ ⟨he, hf⟩ => ⟨r, v, mem, ids, he, hr, List.prefix_refl _, hI.same hf, hk⟩
/-- A call that writes one of the blocks. -/
theorem sat_upd {f : FuncId} {args : List SV} {k : SV → Mem → Tree} {vs : List Value} (i : Nat) (r : SV) (cs : List SV) {v : Value} {b : SBlk} {n : Nat} {l : List Value} (hl : mem.length = ids.length) (hv : denL ids args = some vs) (hr : den ids r = some v)
    (hb : nth mem i = some b) (hn : ids[i]? = some n) (hrw : wrB b = true) (hd : denL ids cs = some l)
    (h : ∀ w, Inv c w ids mem → Calls c.P f vs.toArray w (fun e w2 => e = .returned v ∧ Frm [n] w w2 ∧ Blk w2 n l.toArray b.ty)) (hk : sat c Q (k r (setCells mem i cs)) ids) : sat c Q (.call f args mem k) ids :=
  sat_call0 hl hv fun w hI => (h w hI).mono fun _ _ ⟨he, hf, hw⟩ => ⟨r, v, _, ids, he, hr, List.prefix_refl _, (setCells_eq (cs := cs) hb) ▸ hI.upd i hb hn hrw hd hf hw, hk⟩
theorem pre_at {ids ids' : List Nat} (h : ids <+: ids') {i n : Nat} (hi : ids[i]? = some n) : ids'[i]? = some n := by
  obtain ⟨r, rfl⟩ := h
  rw [List.getElem?_append_left (List.getElem?_eq_some_iff.1 hi).1]; exact hi
/-- A known block at the end. -/
theorem Inv.blk_at {ids ids' : List Nat} {mem : Mem} {w : World} {c : Ctx} (hI : Inv c w ids' mem) (hp : ids <+: ids') (i : Nat) {b : SBlk} {n : Nat} {l : List Value} (hb : nth mem i = some b) (hn : ids[i]? = some n) (hd : denL ids b.cells = some l) : Blk w n l.toArray b.ty := by
  obtain ⟨n', l', h1, h2, h3⟩ := hI.blk i b hb (resOf_cells hd)
  rw [pre_at hp hn] at h1; simp at h1; subst h1
  rw [denL_mono hp _ _ hd] at h2; simp at h2; subst h2
  exact h3

theorem sat_eq {x y : SV} {t : Tree} (hxy : x = y) (h : sat c Q t ids) : sat c Q (.same x y t) ids := ⟨hxy, h⟩

/-- What holds of a tree holds of it with more names. -/
theorem sat_mono : ∀ (t : Tree) {ids ids' : List Nat}, ids <+: ids' → sat c Q t ids → sat c Q t ids'
  | .fin x fr mem, _, _, hp, h => fun ids2 w hp2 => h ids2 w (hp.trans hp2)
  | .br b t f, _, _, hp, h => ⟨fun hb => sat_mono t hp (h.1 hb), fun hb => sat_mono f hp (h.2 hb)⟩
  | .both t f, _, _, hp, h => ⟨sat_mono t hp h.1, sat_mono f hp h.2⟩
  | .must b t, _, _, hp, h => ⟨h.1, sat_mono t hp h.2⟩
  | .chk b t, _, _, hp, h => ⟨h.1, sat_mono t hp h.2⟩
  | .ld t ad mem k, _, _, hp, h => by
    obtain ⟨r, hr, hs⟩ := h
    exact ⟨r, fun ids2 w hp2 => hr ids2 w (hp.trans hp2), sat_mono (k r) hp hs⟩
  | .call f args mem k, _, _, hp, h => fun ids2 w vs hp2 => h ids2 w vs (hp.trans hp2)
  | .same x y t, _, _, hp, h => ⟨h.1, sat_mono t hp h.2⟩
  | .op o fr mem k, _, _, hp, h => fun ids2 w a QE hp2 => h ids2 w a QE (hp.trans hp2)
  | .region id ops fr mem k, _, _, hp, h => fun ids2 w a hp2 => h ids2 w a (hp.trans hp2)
  | .loop body fr mem k, _, _, hp, h => fun ids2 w a hp2 => h ids2 w a (hp.trans hp2)
  | .stuck _, _, _, _, h => h

/-- A call that writes nothing that was there; some blocks may have no names. -/
theorem sat_sameP {f : FuncId} {args : List SV} {k : SV → Mem → Tree} {vs : List Value} (r : SV) {v : Value} (hv : denL ids args = some vs) (hr : den ids r = some v)
    (h : ∀ ids' w, ids <+: ids' → Inv c w ids' mem → Calls c.P f vs.toArray w (fun e w2 => e = .returned v ∧ Frm [] w w2)) (hk : sat c Q (k r mem) ids) : sat c Q (.call f args mem k) ids := fun ids' w' vs' hp hI hv' => by
  rw [denL_mono hp _ _ hv] at hv'; simp at hv'; subst hv'
  exact (h ids' w' hp hI).mono fun _ _ ⟨he, hf⟩ => ⟨r, v, mem, ids', he, den_mono hp _ _ hr, List.prefix_refl _, hI.same hf, sat_mono _ hp hk⟩
/-- A call that writes one of the blocks. -/
theorem sat_updP {f : FuncId} {args : List SV} {k : SV → Mem → Tree} {vs : List Value} (i : Nat) (r : SV) (cs : List SV) {v : Value} {b : SBlk} {n : Nat} {l : List Value} (hv : denL ids args = some vs) (hr : den ids r = some v)
    (hb : nth mem i = some b) (hn : ids[i]? = some n) (hrw : wrB b = true) (hd : denL ids cs = some l)
    (h : ∀ ids' w, ids <+: ids' → Inv c w ids' mem → Calls c.P f vs.toArray w (fun e w2 => e = .returned v ∧ Frm [n] w w2 ∧ Blk w2 n l.toArray b.ty)) (hk : sat c Q (k r (setCells mem i cs)) ids) : sat c Q (.call f args mem k) ids := fun ids' w' vs' hp hI hv' => by
  rw [denL_mono hp _ _ hv] at hv'; simp at hv'; subst hv'
  exact (h ids' w' hp hI).mono fun _ _ ⟨he, hf, hw⟩ => ⟨r, v, _, ids', he, den_mono hp _ _ hr, List.prefix_refl _, (setCells_eq (cs := cs) hb) ▸ hI.upd i hb (pre_at hp hn) hrw (denL_mono hp _ _ hd) hf hw, sat_mono _ hp hk⟩

/-! ### Loops -/
def FrSub : Fr → Fr → Prop
  | [], _ => True
  | (t, v) :: r, fr => (has fr t = true ∧ look fr t = v) ∧ FrSub r fr
def FrDen (ids : List Nat) : Fr → Prop
  | [] => True
  | (_, v) :: r => (∃ u, den ids v = some u) ∧ FrDen ids r
def denOr (ids : List Nat) (b : SBlk) : Option (List Value) := match resOf b with
  | some _ => some []
  | none => denL ids b.cells
def MemDen (ids : List Nat) : Mem → Prop
  | [] => True
  | b :: r => (∃ l, denOr ids b = some l) ∧ MemDen ids r

theorem FrSub.at_ {ids : List Nat} : ∀ {F fr : Fr}, FrSub F fr → FrDen ids F → ∀ t, has F t = true → has fr t = true ∧ look fr t = look F t ∧ ∃ u, den ids (look F t) = some u
  | [], fr, _, _, t, h => by simp [has] at h
  | (d, v) :: r, fr, hs, hd, t, h => by
    simp only [has, look] at h ⊢
    cases hb : Nat.beq d t with
    | true =>
      obtain rfl := Nat.eq_of_beq_eq_true hb
      exact ⟨hs.1.1, hs.1.2, hd.1⟩
    | false =>
      simp only [hb] at h
      exact FrSub.at_ hs.2 hd.2 t h
theorem FrOk.sub {ids' : List Nat} (hp : ids <+: ids') (hF : FrOk c ids' fr a) {F : Fr} (hs : FrSub F fr) (hd : FrDen ids F) : FrOk c ids F a := by
  refine ⟨hF.size, hF.defers, fun t ht => ?_⟩
  obtain ⟨h1, h2, u, hu⟩ := hs.at_ hd t ht
  have := hF.at_ t h1
  rw [h2, den_mono hp _ _ hu] at this
  rw [hu]; exact this
theorem MemDen.at_ {ids : List Nat} : ∀ {mem : Mem}, MemDen ids mem → ∀ i b, nth mem i = some b → ∃ l, denOr ids b = some l
  | [], _, i, b, h => by simp [nth] at h
  | x :: r, hd, 0, b, h => by simp [nth] at h; subst h; exact hd.1
  | x :: r, hd, i + 1, b, h => MemDen.at_ hd.2 i b h
theorem Inv.forget {ids' : List Nat} (hp : ids <+: ids') {junk : Mem} (hI : Inv c w ids' (mem ++ junk)) (hl : ids.length = mem.length) (hd : MemDen ids mem) : Inv c w ids mem := by
  have hn : ∀ i b, nth mem i = some b → nth (mem ++ junk) i = some b := fun i b h => by
    have := nth_lt h
    rw [nth_eq] at h ⊢
    rw [List.getElem?_append_left this]; exact h
  have hi : ∀ i, i < ids.length → ids'[i]? = ids[i]? := fun i h => by
    obtain ⟨r, rfl⟩ := hp
    rw [List.getElem?_append_left h]
  have hfp : ∀ i b, nth mem i = some b → fpOf ids i b = fpOf ids' i b := fun i b hb => (fpOf_ids hp (by rw [hl]; exact nth_lt hb)).symm
  refine ⟨hI.frm, hl, ?_, ?_, ?_⟩
  · intro i b hb
    have hil : i < ids.length := by rw [hl]; exact nth_lt hb
    have hg := hI.good i b (hn i b hb)
    cases hr : resOf b with
    | some r =>
      have := hg.res hr
      unfold Good; rw [hr]; exact this
    | none =>
      obtain ⟨n, l, h1, h2, h3⟩ := hg.blk hr
      obtain ⟨l', hl'⟩ := hd.at_ i b hb
      unfold denOr at hl'
      rw [hr] at hl'
      dsimp only at hl'
      rw [hi i hil] at h1
      have := denL_mono hp _ _ hl'
      rw [h2] at this; simp at this; subst this
      exact .mk h1 hl' h3
  · intro i j bi bj h1 h2 hij x hx
    rw [hfp i bi h1] at hx; rw [hfp j bj h2]
    exact hI.apart i j bi bj (hn i bi h1) (hn j bj h2) hij x hx
  · intro i b hb hr x hx
    rw [hfp i b hb] at hx
    exact hI.own i b (hn i b hb) hr x hx

/-- A LOOP: F, M: what the slots and the named blocks hold in state s; J: what is known of s; μ goes down. -/
theorem sat_loop {σ : Type} (F : σ → Fr) (M : σ → Mem) (J : σ → Prop) (μ : σ → Nat) (s0 : σ) {body : Code} {k : SExit → Fr → Mem → Tree}
    (hm : c.P.follows .mixedOrders = true) (h0 : J s0) (hl : ∀ s, J s → ids.length = (M s).length) (hM : mem = M s0) (hF : FrSub (F s0) fr)
    (hd : ∀ s, J s → FrDen ids (F s) ∧ MemDen ids (M s))
    (round : ∀ s, J s → sat c (fun x fr' mem' ids' w' => match x with
        | .normal => ∃ s', J s' ∧ μ s' < μ s ∧ FrSub (F s') fr' ∧ (∃ junk, mem' = M s' ++ junk) ∧ Frm c.S c.w0 w'
        | x => sat c Q (k x fr' mem') ids') (exec c body (F s) (M s) fun x fr mem => .fin x fr mem) ids) : sat c Q (.loop body fr mem k) ids := by
  intro ids' w a hp hI hFr
  subst hM
  obtain rfl := ext0 hp (by rw [hI.len, hl s0 h0])
  refine wp_loop_ghost (fun n a w => ∃ s, μ s = n ∧ J s ∧ FrOk c ids' (F s) a ∧ Inv c w ids' (M s)) (μ s0) ⟨s0, rfl, h0, hFr.sub (List.prefix_refl _) hF (hd s0 h0).1, hI⟩ ?_
  rintro n a w ⟨s, rfl, hJ, hFs, hIs⟩
  refine exec_ok hm (ids0 := ids') body ?_ (List.prefix_refl _) (List.prefix_refl _) hIs hFs (round s hJ)
  intro x fr' mem' idsk ids2 a' w' h0' hs hp2 hF2 hI2
  simp only [sat] at hs
  have hq := hs ids2 w' hp2 hI2
  have hp3 := h0'.trans hp2
  cases x with
  | normal =>
    obtain ⟨s', hJ', hμ, hsub, ⟨junk, rfl⟩, _⟩ := hq
    exact ⟨μ s', hμ, s', rfl, hJ', hF2.sub hp3 hsub (hd s' hJ').1, hI2.forget hp3 (hl s' hJ') (hd s' hJ').2⟩
  | exit i => exact ⟨.exit i, fr', mem', ids2, rfl, hp3, hF2, hI2, hq⟩
  | ret => exact ⟨.ret, fr', mem', ids2, rfl, hp3, hF2, hI2, hq⟩

/-! ### Beginning -/
theorem Inv.nil {S : List Nat} {P : Program} {N : Nat} {os : List (Nat × Odr)} (w : World) : Inv { P, N, os, S, w0 := w } w [] [] :=
  ⟨Frm.refl _ _, rfl, fun i b h => by cases i <;> simp [nth] at h, fun i j bi bj h => by cases i <;> simp [nth] at h, fun i b h => by cases i <;> simp [nth] at h⟩
/-- All blocks that are spoken of. -/
@[simp] def fpsOf : List Nat → Mem → List Nat
  | n :: ids, b :: mem => (match resOf b with | some r => r.fp | none => [n]) ++ fpsOf ids mem
  | _, _ => []
theorem fpsOf_mem {ids : List Nat} : ∀ {mem : Mem} {i : Nat} {b : SBlk}, ids.length = mem.length → nth mem i = some b → ∀ x ∈ fpOf ids i b, x ∈ fpsOf ids mem := by
  induction ids with
  | nil => intro mem i b hl h; cases mem <;> simp [nth] at *
  | cons n ids ih =>
    intro mem i b hl h x hx
    cases mem with
    | nil => simp at hl
    | cons a mem =>
      cases i with
      | zero =>
        simp [nth] at h; subst h
        unfold fpsOf
        rw [List.mem_append]
        refine .inl ?_
        unfold fpOf at hx
        cases hr : resOf a with
        | some r => rw [hr] at hx; simpa using hx
        | none => rw [hr] at hx; simpa using hx
      | succ i =>
        have : fpOf (n :: ids) (i + 1) b = fpOf ids i b := by unfold fpOf; simp
        rw [this] at hx
        unfold fpsOf
        rw [List.mem_append]
        exact .inr (ih (mem := mem) (i := i) (by simpa using hl) (by simpa [nth] using h) x hx)
theorem Inv.cons {S : List Nat} {P : Program} {N : Nat} {os : List (Nat × Odr)} {w : World} {ids : List Nat} {mem : Mem} (hI : Inv { P, N, os, S, w0 := w } w ids mem) {n : Nat} {b : SBlk} {l : List Value}
    (hn : n ∉ fpsOf ids mem) (hd : denL (ids ++ [n]) b.cells = some l) (hb : Blk w n l.toArray b.ty) (hS : b.rw = true → n ∈ S) : Inv { P, N, os, S, w0 := w } w (ids ++ [n]) (mem ++ [b]) := by
  have hp : ids <+: ids ++ [n] := List.prefix_append _ _
  have hlast : (ids ++ [n])[mem.length]? = some n := by simp [← hI.len]
  have hfp : ∀ i b', nth (mem ++ [b]) i = some b' → (i < ids.length ∧ nth mem i = some b' ∧ fpOf (ids ++ [n]) i b' = fpOf ids i b') ∨ (i = mem.length ∧ b' = b ∧ fpOf (ids ++ [n]) i b' = [n]) := by
    intro i b' h
    rw [nth_append] at h
    split at h
    · rename_i hi
      simp at h; subst h; subst hi
      exact .inr ⟨rfl, rfl, fpOf_cells (resOf_cells hd) hlast⟩
    · have hil : i < ids.length := by rw [hI.len]; exact nth_lt h
      exact .inl ⟨hil, h, fpOf_ids hp hil⟩
  refine ⟨hI.frm, by simp [hI.len], ?_, ?_, ?_⟩
  · intro i b' h
    rcases hfp i b' h with ⟨hi, h, _⟩ | ⟨rfl, rfl, _⟩
    · exact (hI.good i b' h).ids hp hi
    · exact .mk hlast hd hb
  · intro i j bi bj h1 h2 hij x hx hxj
    rcases hfp i bi h1 with ⟨hi, g1, e1⟩ | ⟨rfl, rfl, e1⟩ <;> rcases hfp j bj h2 with ⟨hj, g2, e2⟩ | ⟨rfl, rfl, e2⟩ <;> rw [e1] at hx <;> rw [e2] at hxj
    · exact hI.apart i j bi bj g1 g2 hij x hx hxj
    · simp at hxj; subst hxj; exact hn (fpsOf_mem hI.len g1 x hx)
    · simp at hx; subst hx; exact hn (fpsOf_mem hI.len g2 x hxj)
    · exact hij rfl
  · intro i b' h hr x hx
    rcases hfp i b' h with ⟨hi, h, e1⟩ | ⟨rfl, rfl, e1⟩ <;> rw [e1] at hx
    · exact hI.own i b' h hr x hx
    · simp at hx; subst hx; exact .inl (hS hr)
/-- A part that is known by what holds of it. -/
theorem Inv.consR {S : List Nat} {P : Program} {N : Nat} {os : List (Nat × Odr)} {w : World} {ids : List Nat} {mem : Mem} (hI : Inv { P, N, os, S, w0 := w } w ids mem) {r : Res} {t : TypeId} {rw_ : Bool}
    (hn : ∀ x ∈ r.fp, x ∉ fpsOf ids mem) (hR : r.R w) (hlt : ∀ x ∈ r.fp, x < w.heap.size) (hS : rw_ = true → ∀ x ∈ r.fp, x ∈ S) : Inv { P, N, os, S, w0 := w } w (ids ++ [0]) (mem ++ [⟨t, [.res r], rw_⟩]) := by
  have hp : ids <+: ids ++ [0] := List.prefix_append _ _
  have hfp : ∀ i b', nth (mem ++ [⟨t, [.res r], rw_⟩]) i = some b' → (i < ids.length ∧ nth mem i = some b' ∧ fpOf (ids ++ [0]) i b' = fpOf ids i b') ∨ (i = mem.length ∧ b' = ⟨t, [.res r], rw_⟩ ∧ fpOf (ids ++ [0]) i b' = r.fp) := by
    intro i b' h
    rw [nth_append] at h
    split at h
    · rename_i hi
      simp at h; subst h; subst hi
      exact .inr ⟨rfl, rfl, fpOf_res rfl⟩
    · have hil : i < ids.length := by rw [hI.len]; exact nth_lt h
      exact .inl ⟨hil, h, fpOf_ids hp hil⟩
  refine ⟨hI.frm, by simp [hI.len], ?_, ?_, ?_⟩
  · intro i b' h
    rcases hfp i b' h with ⟨hi, h, _⟩ | ⟨rfl, rfl, _⟩
    · exact (hI.good i b' h).ids hp hi
    · exact ⟨hR, hlt⟩
  · intro i j bi bj h1 h2 hij x hx hxj
    rcases hfp i bi h1 with ⟨hi, g1, e1⟩ | ⟨rfl, rfl, e1⟩ <;> rcases hfp j bj h2 with ⟨hj, g2, e2⟩ | ⟨rfl, rfl, e2⟩ <;> rw [e1] at hx <;> rw [e2] at hxj
    · exact hI.apart i j bi bj g1 g2 hij x hx hxj
    · exact hn x hxj (fpsOf_mem hI.len g1 x hx)
    · exact hn x hx (fpsOf_mem hI.len g2 x hxj)
    · exact hij rfl
  · intro i b' h hr x hx
    rcases hfp i b' h with ⟨hi, h, e1⟩ | ⟨rfl, rfl, e1⟩ <;> rw [e1] at hx
    · exact hI.own i b' h hr x hx
    · exact .inl (hS hr x hx)
theorem load_cell {P : Program} {w : World} {t : TypeId} {ad : Addr} {v : Value} (ht : aggB P t = some false) (hc : w.cell? ad = some v) : (loadVar t ad).run P w = .ok v w := by
  have h1 := aggB_run (c := { P, N := 0, os := [], S := [], w0 := w }) (w := w) ht
  simp only [loadVar, Sem.run_bind]
  rw [show (isAgg t).run P w = .ok false w from h1]
  simp [hc]
theorem Inv.at0 {ids : List Nat} {mem : Mem} {w : World} {c : Ctx} (hI : Inv c w ids mem) (i : Nat) {b : SBlk} {n : Nat} {l : List Value} (hb : nth mem i = some b) (hn : ids[i]? = some n) (hd : denL ids b.cells = some l) : Blk w n l.toArray b.ty := by
  obtain ⟨n', l', h1, h2, h3⟩ := hI.blk i b hb (resOf_cells hd)
  rw [hn] at h1; simp at h1; subst h1
  rw [hd] at h2; simp at h2; subst h2
  exact h3
theorem w64 {n : Int} (h0 : -9223372036854775808 ≤ n) (h1 : n ≤ 9223372036854775807) : IntKind.i64.wrap n = n := by
  unfold IntKind.wrap
  simp [IntKind.bits, IntKind.signed]
  omega
/-- What is owed for a comparison of structs has this shape (closed: the kernel reckons it). -/
theorem and_shape {x y : Bool} (h : (x && y) = true) : (x && y) = true := h
end
end Go.Proofs.YtglafgpjgkphkaaGreatDoor
