/- The law that rights are conserved: several ledgers in a slice. -/
import Derived.Test.YthinmbcedgoglaaDoorLoop
import Derived.Test.YthinmbcedgoglaaDoorRes
set_option maxRecDepth 100000
set_option maxHeartbeats 4000000
set_option linter.unusedSimpArgs false
set_option linter.unusedVariables false
namespace Go.Proofs.YthinmbcedgoglaaDoor
open Go.RowKit

/-! ### Sums -/
def sumTo (f : Nat → Int) : Nat → Int
  | 0 => 0
  | n + 1 => sumTo f n + f n
def upd {α : Type} (f : Nat → α) (k : Nat) (v : α) : Nat → α := fun j => if j = k then v else f j
theorem sumTo_congr {f g : Nat → Int} : ∀ {n : Nat}, (∀ j, j < n → f j = g j) → sumTo f n = sumTo g n
  | 0, _ => rfl
  | n + 1, h => by simp only [sumTo]; rw [sumTo_congr (fun j hj => h j (by omega)), h n (by omega)]
theorem sumTo_upd {f : Nat → Int} {k : Nat} {v : Int} : ∀ {n : Nat}, k < n → sumTo (upd f k v) n = sumTo f n - f k + v
  | 0, h => by omega
  | n + 1, h => by
    simp only [sumTo]
    by_cases e : k = n
    · subst e
      rw [sumTo_congr (g := f) (fun j hj => by simp [upd]; omega)]
      simp [upd]
    · rw [sumTo_upd (by omega)]
      have : upd f k v n = f n := by simp [upd]; omega
      rw [this]; omega
theorem sumTo_nonneg {f : Nat → Int} : ∀ {n : Nat}, (∀ j, j < n → 0 ≤ f j) → 0 ≤ sumTo f n
  | 0, _ => by simp [sumTo]
  | n + 1, h => by simp only [sumTo]; have := sumTo_nonneg (n := n) (fun j hj => h j (by omega)); have := h n (by omega); omega
theorem sumTo_mono {f : Nat → Int} {n : Nat} (h : ∀ j, j < n → 0 ≤ f j) : ∀ {k : Nat}, k ≤ n → sumTo f k ≤ sumTo f n := by
  intro k hk
  induction n with
  | zero =>
    have : k = 0 := by omega
    subst this; exact Int.le_refl _
  | succ n ih =>
    by_cases e : k = n + 1
    · subst e; exact Int.le_refl _
    · have := ih (fun j hj => h j (by omega)) (by omega)
      have := h n (by omega)
      simp only [sumTo]; omega
theorem sumTo_one {f : Nat → Int} {n k : Nat} (h : ∀ j, j < n → 0 ≤ f j) (hk : k < n) : f k ≤ sumTo f n := by
  have h1 := sumTo_mono h (show k + 1 ≤ n by omega)
  have h2 := sumTo_nonneg (f := f) (n := k) (fun j hj => h j (by omega))
  simp only [sumTo] at h1; omega
theorem sumTo_two {f : Nat → Int} {n a b : Nat} (h : ∀ j, j < n → 0 ≤ f j) (ha : a < n) (hb : b < n) (hab : a ≠ b) : f a + f b ≤ sumTo f n := by
  have h1 := sumTo_upd (f := f) (k := a) (v := 0) ha
  have h2 : upd f a 0 b ≤ sumTo (upd f a 0) n := sumTo_one (fun j hj => by unfold upd; split; exact Int.le_refl _; exact h j hj) hb
  have : upd f a 0 b = f b := by simp [upd]; omega
  omega


theorem sumTo_zero : ∀ n, sumTo (fun _ => 0) n = 0
  | 0 => rfl
  | n + 1 => by simp only [sumTo, sumTo_zero n]; rfl

/-! ### What the hands do to the sums -/
structure Fair (ls : Nat → Led) (m : Nat) (L v : Int) : Prop where
  ok : ∀ k, k < m → (ls k).ok
  lim : ∀ k, k < m → (ls k).lim = L
  sum : sumTo (fun k => (ls k).all) m = L
  down : sumTo (fun k => (ls k).d) m = v
theorem Led.ok.all_nonneg {s : Led} (h : s.ok) : 0 ≤ s.all := by obtain ⟨d0, u0, h0, sum, one, cap⟩ := h; unfold Led.all; omega
theorem fun_upd {ls : Nat → Led} {k : Nat} {s : Led} (f : Led → Int) : (fun j => f (upd ls k s j)) = upd (fun j => f (ls j)) k (f s) := by
  funext j; simp only [upd]; split <;> rfl
theorem Fair.set {ls : Nat → Led} {m : Nat} {L v : Int} (h : Fair ls m L v) {k : Nat} (hk : k < m) {s : Led} (ok : s.ok) (hl : s.lim = L) (ha : s.all = (ls k).all) : Fair (upd ls k s) m L (v - (ls k).d + s.d) := by
  refine ⟨fun j hj => ?_, fun j hj => ?_, ?_, ?_⟩
  · simp only [upd]; split; exact ok; exact h.ok j hj
  · simp only [upd]; split; exact hl; exact h.lim j hj
  · rw [fun_upd (fun s => s.all), sumTo_upd hk, h.sum, ha]; omega
  · rw [fun_upd (fun s => s.d), sumTo_upd hk, h.down]
theorem Fair.same {ls : Nat → Led} {m : Nat} {L v : Int} (h : Fair ls m L v) (k : Nat) : Fair (upd ls k (ls k)) m L v := by
  have : upd ls k (ls k) = ls := by funext j; simp only [upd]; split; rename_i e; rw [e]; rfl
  rw [this]; exact h
def Led.take (s : Led) (p q : Int) : Led := { s with d := s.d - p, u := s.u - q }
theorem All_take {b : Nat} {w : World} (s : Led) (hb : Blk w b s.cells 62) :
    Calls Tryd.prog 22 #[.pointer (some ⟨b, 0, none⟩)] w fun e w' => e = .returned (.agg #[.int .i64 s.d, .int .i64 s.u]) ∧ Frm [b] w w' ∧ Blk w' b (s.take s.d s.u).cells 62 := by
  have h := All_ok s hb
  rwa [show ({ s with d := 0, u := 0 } : Led) = s.take s.d s.u by simp [Led.take]] at h
/-- Rights go from one to another. -/
theorem Fair.move {ls : Nat → Led} {m : Nat} {L v : Int} (h : Fair ls m L v) {i j : Nat} (hi : i < m) (hj : j < m) {p q : Int} (hp : 0 ≤ p ∧ p ≤ (ls i).d) (hq : 0 ≤ q ∧ q ≤ (ls i).u) :
    ∃ s', (upd ls i ((ls i).take p q) j).ok ∧ (upd ls i ((ls i).take p q) j).in_ p q = (s', .ok) ∧ Fair (upd (upd ls i ((ls i).take p q)) j s') m L v := by
  have oki := h.ok i hi
  have okj := h.ok j hj
  obtain ⟨d0, u0, h0, sum0, one0, cap0⟩ := oki
  have li := h.lim i hi
  have lj := h.lim j hj
  have hroom : ∀ t, t = upd ls i ((ls i).take p q) j → t.ok ∧ t.lim = L ∧ t.all + p + q ≤ L := by
    rintro t rfl
    by_cases e : j = i
    · subst e
      simp only [upd, if_true]
      refine ⟨by constructor <;> simp only [Led.take] <;> omega, li, ?_⟩
      simp only [Led.all, Led.take]; omega
    · have e1 : upd ls i ((ls i).take p q) j = ls j := by simp [upd, e]
      rw [e1]
      refine ⟨okj, lj, ?_⟩
      have := sumTo_two (f := fun k => (ls k).all) (n := m) (fun k hk => (h.ok k hk).all_nonneg) hi hj (fun e' => e e'.symm)
      rw [h.sum] at this
      have e2 : (ls i).all = (ls i).d + (ls i).u + (ls i).h := rfl
      omega
  generalize ht : upd ls i ((ls i).take p q) j = t
  obtain ⟨tok, tl, tr⟩ := hroom t ht.symm
  have tok' := tok
  obtain ⟨a1, a2, a3, a4, a5, a6⟩ := tok
  have e2 : t.all = t.d + t.u + t.h := rfl
  refine ⟨{ t with d := t.d + p, u := t.u + q }, tok', by simp only [Led.in_]; rw [if_neg (by omega), if_neg (by omega), if_neg (by omega)], ?_⟩
  have ok1 : ∀ k, k < m → (upd ls i ((ls i).take p q) k).ok ∧ (upd ls i ((ls i).take p q) k).lim = L := by
    intro k hk
    simp only [upd]; split
    · exact ⟨by constructor <;> simp only [Led.take] <;> omega, li⟩
    · exact ⟨h.ok k hk, h.lim k hk⟩
  refine ⟨fun k hk => ?_, fun k hk => ?_, ?_, ?_⟩
  · rw [show upd (upd ls i ((ls i).take p q)) j { t with d := t.d + p, u := t.u + q } k = if k = j then { t with d := t.d + p, u := t.u + q } else upd ls i ((ls i).take p q) k from rfl]
    split
    · constructor <;> dsimp only <;> omega
    · exact (ok1 k hk).1
  · rw [show upd (upd ls i ((ls i).take p q)) j { t with d := t.d + p, u := t.u + q } k = if k = j then { t with d := t.d + p, u := t.u + q } else upd ls i ((ls i).take p q) k from rfl]
    split
    · exact tl
    · exact (ok1 k hk).2
  · rw [fun_upd (fun s => s.all), sumTo_upd hj, fun_upd (fun s => s.all), sumTo_upd hi, h.sum]
    rw [ht]
    simp only [Led.all, Led.take]; omega
  · rw [fun_upd (fun s => s.d), sumTo_upd hj, fun_upd (fun s => s.d), sumTo_upd hi, h.down]
    rw [ht]
    simp only [Led.take]; omega
theorem Fair.bounds {ls : Nat → Led} {m : Nat} {L v : Int} (h : Fair ls m L v) : 0 ≤ v ∧ v ≤ L := by
  have key : ∀ t, t ≤ m → sumTo (fun k => (ls k).d) t ≤ sumTo (fun k => (ls k).all) t := by
    intro t
    induction t with
    | zero => intro _; exact Int.le_refl _
    | succ t ih =>
      intro ht
      have h1 := ih (by omega)
      obtain ⟨q1, q2, q3, q4, q5, q6⟩ := h.ok t (by omega)
      have e : (ls t).all = (ls t).d + (ls t).u + (ls t).h := rfl
      simp only [sumTo]
      omega
  have h1 := key m (Nat.le_refl _)
  rw [h.down, h.sum] at h1
  have h2 := sumTo_nonneg (f := fun k => (ls k).d) (n := m) (fun j hj => (h.ok j hj).d0)
  rw [h.down] at h2
  exact ⟨h2, h1⟩
theorem turn_err {s s' : Led} {k b : Int} {r : LErr} (h : s.turn (fromTo k).1 (fromTo k).2 b = (s', r)) (hr : r ≠ .ok) : s' = s := by
  unfold Led.turn at h
  repeat' split at h
  all_goals (simp only [Prod.mk.injEq] at h; first | exact h.1.symm | exact absurd h.2.symm hr)
theorem turn_fine {s s' : Led} {k b : Int} (ok : s.ok) (hk : 1 ≤ k ∧ k ≤ 5) (h : s.turn (fromTo k).1 (fromTo k).2 b = (s', .ok)) :
    s'.all = s.all ∧ s'.lim = s.lim ∧ 1 ≤ b ∧ b ≤ 1099511627776 ∧ s'.d = s.d + (if k = 1 ∨ k = 3 then -b else if k = 2 ∨ k = 4 then b else 0) := by
  obtain ⟨d, u, hh, lim, n⟩ := s
  have hb : ∀ i j, (Led.mk d u hh lim n).turn i j b = (s', .ok) → capB b = true := by
    intro i j h
    cases hc : capB b with
    | true => rfl
    | false => simp [Led.turn, hc] at h
  have hcb := hb _ _ h
  simp [capB] at hcb
  have hk' : k = 1 ∨ k = 2 ∨ k = 3 ∨ k = 4 ∨ k = 5 := by omega
  rcases hk' with rfl | rfl | rfl | rfl | rfl <;> simp only [fromTo, Led.turn, Led.get, Led.set] at h <;> simp at h <;> repeat' split at h
  all_goals simp only [Prod.mk.injEq, reduceCtorEq, and_false] at h
  all_goals (obtain ⟨rfl, _⟩ := h; simp [Led.all]; omega)
theorem out_err {s s' : Led} {a b : Int} {r : LErr} (h : s.out a b = (s', r)) (hr : r ≠ .ok) : s' = s := by
  unfold Led.out at h
  repeat' split at h
  all_goals (simp only [Prod.mk.injEq] at h; first | exact h.1.symm | exact absurd h.2.symm hr)
theorem out_fine {s s' : Led} {a b : Int} (h : s.out a b = (s', .ok)) : s' = s.take a b ∧ (0 ≤ a ∧ a ≤ s.d) ∧ 0 ≤ b ∧ b ≤ s.u := by
  unfold Led.out at h
  repeat' split at h
  all_goals simp only [Prod.mk.injEq, reduceCtorEq, and_false] at h
  obtain ⟨rfl, _⟩ := h
  exact ⟨rfl, by omega, by omega⟩

/-! ### Several ledgers -/
def ledsRes (bs : List Nat) (ls : Nat → Led) : Res where
  fp := bs
  R w := ∀ i b, bs[i]? = some b → Blk w b (ls i).cells 62
  stable := fun w w' hk h i b hb => (hk b (List.mem_of_getElem? hb)).trans (h i b hb)

theorem ledsRes_new {bs : List Nat} {ls : Nat → Led} {w w' : World} {b : Nat} {s : Led} (h : (ledsRes bs ls).R w) (hf : Frm [] w w') (hb : Blk w' b s.cells 62) : (ledsRes (bs ++ [b]) (upd ls bs.length s)).R w' := by
  intro i x hx
  rcases Nat.lt_or_ge i bs.length with hi | hi
  · rw [List.getElem?_append_left hi] at hx
    have : upd ls bs.length s i = ls i := by simp [upd]; omega
    rw [this]
    exact hf.blk (h i x hx) (by simp)
  · rw [List.getElem?_append_right hi] at hx
    have : i - bs.length = 0 := by
      have := (List.getElem?_eq_some_iff.1 hx).1
      simp at this; omega
    rw [this] at hx
    simp at hx; subst hx
    have : i = bs.length := by omega
    subst this
    simpa [upd] using hb
/-- One ledger changes. -/
theorem ledsRes_upd {bs : List Nat} {ls : Nat → Led} {w w' : World} {k b : Nat} {s : Led} (hnd : bs.Nodup) (hk : bs[k]? = some b) (h : (ledsRes bs ls).R w) (hf : Frm [b] w w') (hb : Blk w' b s.cells 62) : (ledsRes bs (upd ls k s)).R w' := by
  intro i x hx
  by_cases hik : i = k
  · subst hik
    rw [hk] at hx; simp at hx; subst hx
    simpa [upd] using hb
  · have : upd ls k s i = ls i := by simp [upd]; omega
    rw [this]
    refine hf.blk (h i x hx) ?_
    simp
    rintro rfl
    obtain ⟨p1, p2⟩ := List.getElem?_eq_some_iff.1 hk
    obtain ⟨q1, q2⟩ := List.getElem?_eq_some_iff.1 hx
    exact hik ((List.getElem_inj hnd).1 (q2.trans p2.symm))

section
variable {c : Ctx} {Q : SExit → Fr → Mem → List Nat → World → Prop} {ids : List Nat} {fr : Fr} {mem : Mem} {todo : List Task}
/-- A call that changes one of the ledgers. -/
theorem n_led {f : FuncId} {args : List SV} {vs : List Value} {dst : Option Nat} (i k b : Nat) {t : TypeId} {bs : List Nat} {ls : Nat → Led} (s : Led) (r : SV) {v : Value} (hd : dstOk c dst = true) (hv : denL ids args = some vs) (hr : den ids r = some v)
    (hb : nth mem i = some ⟨t, [.res (ledsRes bs ls)], true⟩) (hnd : bs.Nodup) (hk : bs[k]? = some b)
    (h : ∀ ids' w1, ids <+: ids' → Inv c w1 ids' mem → Blk w1 b (ls k).cells 62 → Calls c.P f vs.toArray w1 (fun e w2 => e = .returned v ∧ Frm [b] w1 w2 ∧ Blk w2 b s.cells 62))
    (hn : satS c Q ⟨putF dst r fr, setCells mem i [.res (ledsRes bs (upd ls k s))], todo⟩ ids) : satN c Q (.call f args dst ⟨fr, mem, todo⟩) ids := by
  refine n_callR (Y := Unit) i (fun _ => ledsRes bs (upd ls k s)) (fun _ => r) (fun _ => v) (fun _ => True) hd hv (fun _ => hr) hb rfl rfl (fun ids' w1 hp hI hR => ?_) (fun _ _ => hn)
  refine (h ids' w1 hp hI (hR k b hk)).mono ?_
  rintro e w2 ⟨he, hf, hB⟩
  refine ⟨(), he, trivial, hf.mono (fun x hx => ?_), ledsRes_upd hnd hk hR hf hB, fun x hx => .inl hx, fun x hx => ?_⟩
  · simp at hx; subst hx; exact List.mem_of_getElem? hk
  · have := hI.resLt i hb rfl x hx
    have := hf.size; omega
end

theorem aggHand : aggB Tryd.prog 39 = some true := by kernel_rfl
theorem sizeHand : sizeB Tryd.prog 39 = some 5 := by kernel_rfl
structure Hands (w : World) (o : Option Addr) (n : Nat) (k x y a b : Nat → Int) : Prop where
  sl : RawSl w w.heap.size 5 o n fun i => [.int .i64 (k i), .int .i64 (x i), .int .i64 (y i), .int .i64 (a i), .int .i64 (b i)]
  len : n ≤ 9223372036854775807
  fit : ∀ i, i < n → i64 (k i) ∧ i64 (x i) ∧ i64 (y i) ∧ i64 (a i) ∧ i64 (b i)
theorem Hands.load {w : World} {o : Option Addr} {n : Nat} {k x y a b : Nat → Int} (h : Hands w o n k x y a b) {i : Nat} (hi : i < n) : ∃ ad, o = some ad ∧ ∀ w', Frm [] w w' → (loadVar 39 (ad.add (i * 5))).run Tryd.prog w' = .ok (.agg #[.int .i64 (k i), .int .i64 (x i), .int .i64 (y i), .int .i64 (a i), .int .i64 (b i)]) w' := by
  obtain ⟨ad, h1, h2, h3, h4⟩ := h.sl i hi
  refine ⟨ad, h1, fun w' hf => ?_⟩
  obtain ⟨ad', h1', _, _, h5⟩ := h.sl.frm hf (Nat.le_refl _) (by simp) i hi
  rw [h1] at h1'; simp at h1'; subst h1'
  exact load_row (l := [.int .i64 (k i), .int .i64 (x i), .int .i64 (y i), .int .i64 (a i), .int .i64 (b i)]) aggHand sizeHand fun j u hu => by rw [add_add]; exact h5 j u hu

theorem elemLed : sliceElem Tryd.prog 37 = some 24 := by kernel_rfl
theorem infoLed : (Tryd.prog.info? 24).map (fun i => (i.zero, i.size, i.bytes)) = some (some (.pointer none), 1, 8) := by kernel_rfl
theorem aggLedP : aggB Tryd.prog 24 = some false := by kernel_rfl
abbrev ptrs (bs : List Nat) : List Value := bs.map fun b => .pointer (some ⟨b, 0, none⟩)

theorem ld_ptr {g n ca k idx b : Nat} {bs : List Nat} {w1 : World} (h : (rowRes 24 1 (some ⟨g, 0, none⟩) n ca (ptrs bs)).R w1) (hk : bs[k]? = some b) (hi : idx = k) : (loadVar 24 ((⟨g, 0, none⟩ : Addr).add idx)).run Tryd.prog w1 = .ok (.pointer (some ⟨b, 0, none⟩)) w1 := by
  subst hi
  exact load_cell aggLedP (rowRes_cell h (by simp [ptrs, hk]))
structure St1 where
  k : Nat
  o : Option Addr
  cap : Nat
  bs : List Nat

theorem Conserves_ok {b0 : Nat} {w : World} {a0 a1 a2 : Addr} (hs : Sents b0 w a0 a1 a2) (hB : b0 ≤ w.heap.size) (x y z : Int) (hx : i64 x) (hy : i64 y) (hz : i64 z) {o : Option Addr} {n cap : Nat} {k who to a b : Nat → Int} (hsc : Hands w o n k who to a b) :
    Calls Tryd.prog 4 #[.int .i64 x, .int .i64 y, .int .i64 z, .slice o n cap] w fun e w' => e = .returned (.bool true) ∧ Frm [] w w' := by
  have hS : ∀ z ∈ ([] : List Nat), b0 ≤ z := by simp
  have hlen := hsc.len
  generalize hL : withinF x 1 1099511627776 = L
  have bL : 1 ≤ L ∧ L ≤ 1099511627776 := hL ▸ within_le (by omega)
  have cL : capB L = true := by simp [capB]; omega
  generalize hN : withinF y 1 8 = N
  have bN : 1 ≤ N ∧ N ≤ 8 := hN ▸ within_le (by omega)
  generalize hF : withinF z 0 L = F
  have bF : 0 ≤ F ∧ F ≤ L := hF ▸ within_le (by omega)
  obtain ⟨m, rfl⟩ : ∃ m : Nat, N = m := ⟨N.toNat, by omega⟩
  obtain ⟨it, hit, hparts⟩ := Option.map_eq_some_iff.1 infoLed
  simp only [Prod.mk.injEq] at hparts
  have hI : Inv (cx 199 [] [] w) w [0, 0] [⟨24, [.res (rowRes 24 1 none 0 0 [])], true⟩, ⟨24, [.res (ledsRes [] fun _ => Led.mk 0 0 0 L 0)], true⟩] :=
    ((Inv.nil w).consR (by simp [rowRes]) (rowRes_nil _ _ _) (by simp [rowRes]) (by simp [rowRes])).consR (by simp [ledsRes]) (fun i b h => by simp at h) (by simp [ledsRes]) (by simp [ledsRes])
  refine calls_sm (cx 199 [] [] w) (vals := [.int .i64 x, .int .i64 y, .int .i64 z, .raw (.slice o n cap)]) mixed Tryd.func4 rfl rfl rfl hI rfl (st rfl ?_); conv => arg 3; whnf
  (repeat (first | (refine n_must rfl ?_; (refine st rfl ?_; conv => arg 3; whnf)) | (refine n_chk (drawF_ok (by decide +kernel)) ?_; (refine st rfl ?_; conv => arg 3; whnf)) | (refine n_same rfl ?_; (refine st rfl ?_; conv => arg 3; whnf)) | (refine n_brT ?_ ?_; (focus (simp <;> fail)); (refine st rfl ?_; conv => arg 3; whnf)) | (refine n_brF ?_ ?_; (focus (simp <;> fail)); (refine st rfl ?_; conv => arg 3; whnf))))
  refine n_sameP (.lit true) rfl rfl rfl (fun _ w1 hp1 hI1 => alive_ok (hs.frm hI1.frm hS hB) (Nat.le_trans hB hI1.frm.size)) ?_; (refine st rfl ?_; conv => arg 3; whnf)
  (repeat (first | (refine n_must rfl ?_; (refine st rfl ?_; conv => arg 3; whnf)) | (refine n_chk (drawF_ok (by decide +kernel)) ?_; (refine st rfl ?_; conv => arg 3; whnf)) | (refine n_same rfl ?_; (refine st rfl ?_; conv => arg 3; whnf)) | (refine n_brT ?_ ?_; (focus (simp <;> fail)); (refine st rfl ?_; conv => arg 3; whnf)) | (refine n_brF ?_ ?_; (focus (simp <;> fail)); (refine st rfl ?_; conv => arg 3; whnf))))
  refine n_sameP (.int .i64 L) rfl rfl rfl (fun _ w1 hp1 hI1 => hL ▸ within_ok x 1 1099511627776 hx (by omega) (by omega) (by omega) w1) ?_; (refine st rfl ?_; conv => arg 3; whnf)
  (repeat (first | (refine n_must rfl ?_; (refine st rfl ?_; conv => arg 3; whnf)) | (refine n_chk (drawF_ok (by decide +kernel)) ?_; (refine st rfl ?_; conv => arg 3; whnf)) | (refine n_same rfl ?_; (refine st rfl ?_; conv => arg 3; whnf)) | (refine n_brT ?_ ?_; (focus (simp <;> fail)); (refine st rfl ?_; conv => arg 3; whnf)) | (refine n_brF ?_ ?_; (focus (simp <;> fail)); (refine st rfl ?_; conv => arg 3; whnf))))
  refine n_sameP (.int .i64 (m : Int)) rfl rfl rfl (fun _ w1 hp1 hI1 => hN ▸ within_ok y 1 8 hy (by omega) (by omega) (by omega) w1) ?_; (refine st rfl ?_; conv => arg 3; whnf)
  (repeat (first | (refine n_must rfl ?_; (refine st rfl ?_; conv => arg 3; whnf)) | (refine n_chk (drawF_ok (by decide +kernel)) ?_; (refine st rfl ?_; conv => arg 3; whnf)) | (refine n_same rfl ?_; (refine st rfl ?_; conv => arg 3; whnf)) | (refine n_brT ?_ ?_; (focus (simp <;> fail)); (refine st rfl ?_; conv => arg 3; whnf)) | (refine n_brF ?_ ?_; (focus (simp <;> fail)); (refine st rfl ?_; conv => arg 3; whnf))))
  refine n_sameP (.int .i64 F) rfl rfl rfl (fun _ w1 hp1 hI1 => hF ▸ within_ok z 0 L hz (by omega) (by omega) (by omega) w1) ?_; (refine st rfl ?_; conv => arg 3; whnf)
  (repeat (first | (refine n_must rfl ?_; (refine st rfl ?_; conv => arg 3; whnf)) | (refine n_chk (drawF_ok (by decide +kernel)) ?_; (refine st rfl ?_; conv => arg 3; whnf)) | (refine n_same rfl ?_; (refine st rfl ?_; conv => arg 3; whnf)) | (refine n_brT ?_ ?_; (focus (simp <;> fail)); (refine st rfl ?_; conv => arg 3; whnf)) | (refine n_brF ?_ ?_; (focus (simp <;> fail)); (refine st rfl ?_; conv => arg 3; whnf))))
  refine n_loop (σ := St1) (fun s => [(0, .int .i64 L), (1, .int .i64 (m : Int)), (2, .int .i64 F), (3, .raw (.slice o n cap)), (9, .lit true), (10, .raw (.slice s.o s.k s.cap)), (11, .int .i64 (s.k : Nat))]) (fun s => [⟨24, [.res (rowRes 24 1 s.o s.k s.cap (ptrs s.bs))], true⟩, ⟨24, [.res (ledsRes s.bs fun _ => Led.mk 0 0 0 L 0)], true⟩]) (fun s => s.k ≤ m ∧ s.bs.length = s.k ∧ s.bs.Nodup ∧ (∀ b ∈ s.bs, w.heap.size ≤ b) ∧ (0 < s.k → ∃ g, s.o = some ⟨g, 0, none⟩)) (fun s => m - s.k) ⟨0, none, 0, []⟩ mixed ⟨by simp, rfl, List.nodup_nil, by simp, by simp⟩ (fun _ _ => rfl) rfl (by (repeat (first | exact trivial | refine ⟨⟨rfl, rfl⟩, ?_⟩))) (fun s _ => ⟨by (repeat (first | exact trivial | refine ⟨⟨_, rfl⟩, ?_⟩)), by (repeat (first | exact trivial | refine ⟨⟨_, rfl⟩, ?_⟩))⟩) fun s hJ => ?_
  obtain ⟨i, oa, ca, bs⟩ := s
  obtain ⟨hi, hbl, hnd, hbb, hoa⟩ := hJ
  dsimp only at hi hbl hnd hbb hoa ⊢
  (refine st rfl ?_; conv => arg 3; whnf)
  by_cases hlt : i < m
  · have ei : IntKind.i64.wrap ((i : Int) + 1) = ((i + 1 : Nat) : Int) := by rw [w64 (by omega) (by omega)]; simp
    (repeat (first | (refine n_must rfl ?_; (refine st rfl ?_; conv => arg 3; whnf)) | (refine n_chk (drawF_ok (by decide +kernel)) ?_; (refine st rfl ?_; conv => arg 3; whnf)) | (refine n_same rfl ?_; (refine st rfl ?_; conv => arg 3; whnf)) | (refine n_must ?_ ?_; (focus (first | (simp; done) | (simp; omega))); (refine st rfl ?_; conv => arg 3; whnf)) | (refine n_brT ?_ ?_; (focus (first | (simp; done) | (simp; omega))); (refine st rfl ?_; conv => arg 3; whnf)) | (refine n_brF ?_ ?_; (focus (first | (simp; done) | (simp; omega))); (refine st rfl ?_; conv => arg 3; whnf))))
    refine n_callR (Y := Nat) 1 (fun b => ledsRes (bs ++ [b]) fun _ => Led.mk 0 0 0 L 0) (fun b => .tup [.raw (.pointer (some ⟨b, 0, none⟩)), .int .i64 0]) (fun b => .tuple #[.pointer (some ⟨b, 0, none⟩), .int .i64 0]) (fun b => w.heap.size ≤ b ∧ b ∉ bs) rfl rfl (fun _ => rfl) rfl rfl rfl (fun ids' w1 hp hI1 hR => ?_) fun b hb => ?_
    · refine (New_1 L cL w1).mono ?_
      rintro e w2 ⟨b, hb, rfl, hf, hblk⟩
      have hlt1 : ∀ x ∈ bs, x < w1.heap.size := hI1.resLt 1 rfl rfl
      refine ⟨b, rfl, ⟨Nat.le_trans hI1.frm.size hb, fun h => by have := hlt1 b h; omega⟩, hf.mono (by simp), ?_, ?_, ?_⟩
      · have h := ledsRes_new hR hf hblk
        rwa [show upd (fun _ => Led.mk 0 0 0 L 0) bs.length (Led.mk 0 0 0 L 0) = fun _ => Led.mk 0 0 0 L 0 from funext fun j => by simp [upd]] at h
      · intro x hx
        simp [ledsRes] at hx ⊢
        rcases hx with hx | rfl
        · exact .inl hx
        · exact .inr hb
      · intro x hx
        simp [ledsRes] at hx
        rcases hx with hx | rfl
        · have := hlt1 x hx; have := hf.size; omega
        · exact hblk.lt
    (refine st rfl ?_; conv => arg 3; whnf)
    (repeat (first | (refine n_must rfl ?_; (refine st rfl ?_; conv => arg 3; whnf)) | (refine n_chk (drawF_ok (by decide +kernel)) ?_; (refine st rfl ?_; conv => arg 3; whnf)) | (refine n_same rfl ?_; (refine st rfl ?_; conv => arg 3; whnf)) | (refine n_must ?_ ?_; (focus (first | (simp; done) | (simp; omega))); (refine st rfl ?_; conv => arg 3; whnf)) | (refine n_brT ?_ ?_; (focus (first | (simp; done) | (simp; omega))); (refine st rfl ?_; conv => arg 3; whnf)) | (refine n_brF ?_ ?_; (focus (first | (simp; done) | (simp; omega))); (refine st rfl ?_; conv => arg 3; whnf))))
    refine n_build1 rfl rfl elemLed rfl rfl rfl rfl rfl rfl rfl rfl rfl ?_
    (refine st rfl ?_; conv => arg 3; whnf)
    (repeat (first | (refine n_must rfl ?_; (refine st rfl ?_; conv => arg 3; whnf)) | (refine n_chk (drawF_ok (by decide +kernel)) ?_; (refine st rfl ?_; conv => arg 3; whnf)) | (refine n_same rfl ?_; (refine st rfl ?_; conv => arg 3; whnf)) | (refine n_must ?_ ?_; (focus (first | (simp; done) | (simp; omega))); (refine st rfl ?_; conv => arg 3; whnf)) | (refine n_brT ?_ ?_; (focus (first | (simp; done) | (simp; omega))); (refine st rfl ?_; conv => arg 3; whnf)) | (refine n_brF ?_ ?_; (focus (first | (simp; done) | (simp; omega))); (refine st rfl ?_; conv => arg 3; whnf))))
    refine n_append (nv := [.pointer (some ⟨b, 0, none⟩)]) 0 rfl rfl elemLed hit hparts.1 hparts.2.1 hparts.2.2 rfl (by omega) rfl rfl rfl rfl rfl rfl (by omega) (by simp [Value.oneCell']) (by omega) (by omega) (show ptrs bs ++ _ = ptrs (bs ++ [b]) by simp [ptrs]) fun g ca' => ?_
    (refine st rfl ?_; conv => arg 3; whnf)
    (repeat (first | (refine n_must rfl ?_; (refine st rfl ?_; conv => arg 3; whnf)) | (refine n_chk (drawF_ok (by decide +kernel)) ?_; (refine st rfl ?_; conv => arg 3; whnf)) | (refine n_same rfl ?_; (refine st rfl ?_; conv => arg 3; whnf)) | (refine n_must ?_ ?_; (focus (first | (simp; done) | (simp; omega))); (refine st rfl ?_; conv => arg 3; whnf)) | (refine n_brT ?_ ?_; (focus (first | (simp; done) | (simp; omega))); (refine st rfl ?_; conv => arg 3; whnf)) | (refine n_brF ?_ ?_; (focus (first | (simp; done) | (simp; omega))); (refine st rfl ?_; conv => arg 3; whnf))))
    refine n_again ⟨⟨i + 1, some ⟨g, 0, none⟩, ca', bs ++ [b]⟩, ⟨by dsimp only; omega, by simp [hbl], ?_, ?_, fun _ => ⟨g, rfl⟩⟩, by dsimp only; omega, (by (repeat (first | exact trivial | refine ⟨⟨rfl, rfl⟩, ?_⟩ | refine ⟨⟨rfl, congrArg (SV.int .i64) ei⟩, ?_⟩))), ⟨_, rfl⟩⟩
    · rw [List.nodup_append]; exact ⟨hnd, by simp, fun p hp q hq => by simp at hq; subst hq; rintro rfl; exact hb.2 hp⟩
    · intro x hx; simp at hx; rcases hx with hx | rfl; exact hbb x hx; exact hb.1
  · obtain rfl : i = m := by omega
    obtain ⟨g, rfl⟩ := hoa (by omega)
    have hb00 : ∀ b ∈ bs, b0 ≤ b := fun b hb => Nat.le_trans hB (hbb b hb)
    have wm : IntKind.i64.wrap ((i : Int) - 1) = (i : Int) - 1 := w64 (by omega) (by omega)
    have hat : ∀ k : Nat, k < i → ∃ b, bs[k]? = some b := fun k hk => ⟨bs[k]'(by omega), List.getElem?_eq_getElem _⟩
    (repeat (first | (refine n_must rfl ?_; (refine st rfl ?_; conv => arg 3; whnf)) | (refine n_chk (drawF_ok (by decide +kernel)) ?_; (refine st rfl ?_; conv => arg 3; whnf)) | (refine n_same rfl ?_; (refine st rfl ?_; conv => arg 3; whnf)) | (refine n_must ?_ ?_; (focus (first | (simp; done) | (simp; omega))); (refine st rfl ?_; conv => arg 3; whnf)) | (refine n_brT ?_ ?_; (focus (first | (simp; done) | (simp; omega))); (refine st rfl ?_; conv => arg 3; whnf)) | (refine n_brF ?_ ?_; (focus (first | (simp; done) | (simp; omega))); (refine st rfl ?_; conv => arg 3; whnf))))
    refine n_exit rfl ?_
    (refine st rfl ?_; conv => arg 3; whnf)
    (repeat (first | (refine n_must rfl ?_; (refine st rfl ?_; conv => arg 3; whnf)) | (refine n_chk (drawF_ok (by decide +kernel)) ?_; (refine st rfl ?_; conv => arg 3; whnf)) | (refine n_same rfl ?_; (refine st rfl ?_; conv => arg 3; whnf)) | (refine n_must ?_ ?_; (focus (first | (simp; done) | (simp; omega))); (refine st rfl ?_; conv => arg 3; whnf)) | (refine n_brT ?_ ?_; (focus (first | (simp; done) | (simp; omega))); (refine st rfl ?_; conv => arg 3; whnf)) | (refine n_brF ?_ ?_; (focus (first | (simp; done) | (simp; omega))); (refine st rfl ?_; conv => arg 3; whnf))))
    obtain ⟨c0, hc0⟩ := hat 0 (by omega)
    refine n_ldI (.raw (.pointer (some ⟨c0, 0, none⟩))) rfl rfl (fun ids' w1 hp1 hI1 => ld_ptr (hI1.res 0 rfl rfl) hc0 (by simp)) ?_
    (refine st rfl ?_; conv => arg 3; whnf)
    (repeat (first | (refine n_must rfl ?_; (refine st rfl ?_; conv => arg 3; whnf)) | (refine n_chk (drawF_ok (by decide +kernel)) ?_; (refine st rfl ?_; conv => arg 3; whnf)) | (refine n_same rfl ?_; (refine st rfl ?_; conv => arg 3; whnf)) | (refine n_must ?_ ?_; (focus (first | (simp; done) | (simp; omega))); (refine st rfl ?_; conv => arg 3; whnf)) | (refine n_brT ?_ ?_; (focus (first | (simp; done) | (simp; omega))); (refine st rfl ?_; conv => arg 3; whnf)) | (refine n_brF ?_ ?_; (focus (first | (simp; done) | (simp; omega))); (refine st rfl ?_; conv => arg 3; whnf))))
    have wF : IntKind.i64.wrap (L - F) = L - F := w64 (by omega) (by omega)
    have k0 : (Led.mk 0 0 0 L 0).ok := Led.new_ok cL
    have eIn : (Led.mk 0 0 0 L 0).in_ F (L - F) = (Led.mk F (L - F) 0 L 0, .ok) := by simp only [Led.in_]; rw [if_neg (by omega), if_neg (by omega), if_neg (by omega)]; simp
    refine n_led 1 0 c0 (Led.mk F (L - F) 0 L 0) (.int .i64 0) rfl rfl rfl rfl hnd hc0 (fun ids' w1 hp1 hI1 hblk => by rw [wF]; exact In_at (r := .ok) (hs.frm hI1.frm hS hB) (hb00 _ (List.mem_of_getElem? hc0)) (Nat.le_trans hB hI1.frm.size) F (L - F) k0 eIn hblk) ?_
    (refine st rfl ?_; conv => arg 3; whnf)
    (repeat (first | (refine n_must rfl ?_; (refine st rfl ?_; conv => arg 3; whnf)) | (refine n_chk (drawF_ok (by decide +kernel)) ?_; (refine st rfl ?_; conv => arg 3; whnf)) | (refine n_same rfl ?_; (refine st rfl ?_; conv => arg 3; whnf)) | (refine n_must ?_ ?_; (focus (first | (simp; done) | (simp; omega))); (refine st rfl ?_; conv => arg 3; whnf)) | (refine n_brT ?_ ?_; (focus (first | (simp; done) | (simp; omega))); (refine st rfl ?_; conv => arg 3; whnf)) | (refine n_brF ?_ ?_; (focus (first | (simp; done) | (simp; omega))); (refine st rfl ?_; conv => arg 3; whnf))))
    have fair0 : Fair (upd (fun _ => Led.mk 0 0 0 L 0) 0 (Led.mk F (L - F) 0 L 0)) i L F := by
      have h := Fair.set (ls := fun _ => Led.mk 0 0 0 L 0) (m := i) (L := L) (v := 0) (k := 0) (s := Led.mk F (L - F) 0 L 0)
      refine ⟨fun k hk => ?_, fun k hk => ?_, ?_, ?_⟩
      · simp only [upd]; split
        · constructor <;> dsimp only <;> omega
        · exact k0
      · simp only [upd]; split <;> rfl
      · rw [fun_upd (fun s => s.all), sumTo_upd (by omega), show (fun _ : Nat => Led.all (Led.mk 0 0 0 L 0)) = fun _ => 0 from rfl, sumTo_zero]
        simp only [Led.all]; omega
      · rw [fun_upd (fun s => s.d), sumTo_upd (by omega), show (fun _ : Nat => Led.d (Led.mk 0 0 0 L 0)) = fun _ => 0 from rfl, sumTo_zero]
        simp
    generalize hls0 : upd (fun _ => Led.mk 0 0 0 L 0) 0 (Led.mk F (L - F) 0 L 0) = ls0 at fair0
    refine n_loop (σ := Nat × (Nat → Led) × Int) (fun s => [(0, .int .i64 L), (1, .int .i64 (i : Int)), (3, .raw (.slice o n cap)), (10, .raw (.slice (some ⟨g, 0, none⟩) i ca)), (15, .int .i64 s.2.2), (16, .int .i64 (s.1 : Nat))]) (fun s => [⟨24, [.res (rowRes 24 1 (some ⟨g, 0, none⟩) i ca (ptrs bs))], true⟩, ⟨24, [.res (ledsRes bs s.2.1)], true⟩]) (fun s => s.1 ≤ n ∧ Fair s.2.1 i L s.2.2) (fun s => n - s.1) (0, ls0, F) mixed ⟨by simp, fair0⟩ (fun _ _ => rfl) rfl (by (repeat (first | exact trivial | refine ⟨⟨rfl, rfl⟩, ?_⟩))) (fun s _ => ⟨by (repeat (first | exact trivial | refine ⟨⟨_, rfl⟩, ?_⟩)), by (repeat (first | exact trivial | refine ⟨⟨_, rfl⟩, ?_⟩))⟩) fun s hJ => ?_
    obtain ⟨q, ls, v⟩ := s
    obtain ⟨hq, fair⟩ := hJ
    dsimp only at hq fair ⊢
    (refine st rfl ?_; conv => arg 3; whnf)
    by_cases hlt2 : q < n ∧ q < 1000
    · obtain ⟨h1, h2⟩ := hlt2
      have eq : IntKind.i64.wrap ((q : Int) + 1) = ((q + 1 : Nat) : Int) := by rw [w64 (by omega) (by omega)]; simp
      obtain ⟨ad, rfl, hload⟩ := hsc.load h1
      obtain ⟨fk, fw, ft, fa, fb⟩ := hsc.fit q h1
      generalize k q = kk at hload fk
      generalize who q = who at hload fw
      generalize to q = to at hload ft
      generalize a q = a at hload fa
      generalize b q = b at hload fb
      (repeat (first | (refine n_must rfl ?_; (refine st rfl ?_; conv => arg 3; whnf)) | (refine n_chk (drawF_ok (by decide +kernel)) ?_; (refine st rfl ?_; conv => arg 3; whnf)) | (refine n_same rfl ?_; (refine st rfl ?_; conv => arg 3; whnf)) | (refine n_must ?_ ?_; (focus (first | (simp; done) | (simp; omega))); (refine st rfl ?_; conv => arg 3; whnf)) | (refine n_brT ?_ ?_; (focus (first | (simp; done) | (simp; omega))); (refine st rfl ?_; conv => arg 3; whnf)) | (refine n_brF ?_ ?_; (focus (first | (simp; done) | (simp; omega))); (refine st rfl ?_; conv => arg 3; whnf))))
      refine n_ld (.agg [.int .i64 kk, .int .i64 who, .int .i64 to, .int .i64 a, .int .i64 b]) rfl rfl hload ?_
      (refine st rfl ?_; conv => arg 3; whnf)
      (repeat (first | (refine n_must rfl ?_; (refine st rfl ?_; conv => arg 3; whnf)) | (refine n_chk (drawF_ok (by decide +kernel)) ?_; (refine st rfl ?_; conv => arg 3; whnf)) | (refine n_same rfl ?_; (refine st rfl ?_; conv => arg 3; whnf)) | (refine n_must ?_ ?_; (focus (first | (simp; done) | (simp; omega))); (refine st rfl ?_; conv => arg 3; whnf)) | (refine n_brT ?_ ?_; (focus (first | (simp; done) | (simp; omega))); (refine st rfl ?_; conv => arg 3; whnf)) | (refine n_brF ?_ ?_; (focus (first | (simp; done) | (simp; omega))); (refine st rfl ?_; conv => arg 3; whnf))))
      generalize hX : withinF who 0 ((i : Int) - 1) = X
      have bX : 0 ≤ X ∧ X ≤ (i : Int) - 1 := hX ▸ within_le (by omega)
      obtain ⟨ja, rfl⟩ : ∃ ja : Nat, X = ja := ⟨X.toNat, by omega⟩
      refine n_sameP (.int .i64 (ja : Int)) rfl rfl rfl (fun _ w1 hp1 hI1 => by rw [wm]; exact hX ▸ within_ok who 0 ((i : Int) - 1) fw (by omega) (by omega) (by omega) w1) ?_; (refine st rfl ?_; conv => arg 3; whnf)
      (repeat (first | (refine n_must rfl ?_; (refine st rfl ?_; conv => arg 3; whnf)) | (refine n_chk (drawF_ok (by decide +kernel)) ?_; (refine st rfl ?_; conv => arg 3; whnf)) | (refine n_same rfl ?_; (refine st rfl ?_; conv => arg 3; whnf)) | (refine n_must ?_ ?_; (focus (first | (simp; done) | (simp; omega))); (refine st rfl ?_; conv => arg 3; whnf)) | (refine n_brT ?_ ?_; (focus (first | (simp; done) | (simp; omega))); (refine st rfl ?_; conv => arg 3; whnf)) | (refine n_brF ?_ ?_; (focus (first | (simp; done) | (simp; omega))); (refine st rfl ?_; conv => arg 3; whnf))))
      obtain ⟨ba, hba⟩ := hat ja (by omega)
      refine n_ldI (.raw (.pointer (some ⟨ba, 0, none⟩))) rfl rfl (fun ids' w1 hp1 hI1 => ld_ptr (hI1.res 0 rfl rfl) hba (by simp)) ?_
      (refine st rfl ?_; conv => arg 3; whnf)
      (repeat (first | (refine n_must rfl ?_; (refine st rfl ?_; conv => arg 3; whnf)) | (refine n_chk (drawF_ok (by decide +kernel)) ?_; (refine st rfl ?_; conv => arg 3; whnf)) | (refine n_same rfl ?_; (refine st rfl ?_; conv => arg 3; whnf)) | (refine n_must ?_ ?_; (focus (first | (simp; done) | (simp; omega))); (refine st rfl ?_; conv => arg 3; whnf)) | (refine n_brT ?_ ?_; (focus (first | (simp; done) | (simp; omega))); (refine st rfl ?_; conv => arg 3; whnf)) | (refine n_brF ?_ ?_; (focus (first | (simp; done) | (simp; omega))); (refine st rfl ?_; conv => arg 3; whnf))))
      generalize hY : withinF to 0 ((i : Int) - 1) = Y
      have bY : 0 ≤ Y ∧ Y ≤ (i : Int) - 1 := hY ▸ within_le (by omega)
      obtain ⟨jb, rfl⟩ : ∃ jb : Nat, Y = jb := ⟨Y.toNat, by omega⟩
      refine n_sameP (.int .i64 (jb : Int)) rfl rfl rfl (fun _ w1 hp1 hI1 => by rw [wm]; exact hY ▸ within_ok to 0 ((i : Int) - 1) ft (by omega) (by omega) (by omega) w1) ?_; (refine st rfl ?_; conv => arg 3; whnf)
      (repeat (first | (refine n_must rfl ?_; (refine st rfl ?_; conv => arg 3; whnf)) | (refine n_chk (drawF_ok (by decide +kernel)) ?_; (refine st rfl ?_; conv => arg 3; whnf)) | (refine n_same rfl ?_; (refine st rfl ?_; conv => arg 3; whnf)) | (refine n_must ?_ ?_; (focus (first | (simp; done) | (simp; omega))); (refine st rfl ?_; conv => arg 3; whnf)) | (refine n_brT ?_ ?_; (focus (first | (simp; done) | (simp; omega))); (refine st rfl ?_; conv => arg 3; whnf)) | (refine n_brF ?_ ?_; (focus (first | (simp; done) | (simp; omega))); (refine st rfl ?_; conv => arg 3; whnf))))
      obtain ⟨bb, hbb'⟩ := hat jb (by omega)
      refine n_ldI (.raw (.pointer (some ⟨bb, 0, none⟩))) rfl rfl (fun ids' w1 hp1 hI1 => ld_ptr (hI1.res 0 rfl rfl) hbb' (by simp)) ?_
      (refine st rfl ?_; conv => arg 3; whnf)
      (repeat (first | (refine n_must rfl ?_; (refine st rfl ?_; conv => arg 3; whnf)) | (refine n_chk (drawF_ok (by decide +kernel)) ?_; (refine st rfl ?_; conv => arg 3; whnf)) | (refine n_same rfl ?_; (refine st rfl ?_; conv => arg 3; whnf)) | (refine n_must ?_ ?_; (focus (first | (simp; done) | (simp; omega))); (refine st rfl ?_; conv => arg 3; whnf)) | (refine n_brT ?_ ?_; (focus (first | (simp; done) | (simp; omega))); (refine st rfl ?_; conv => arg 3; whnf)) | (refine n_brF ?_ ?_; (focus (first | (simp; done) | (simp; omega))); (refine st rfl ?_; conv => arg 3; whnf))))
      generalize hK : withinF kk 0 2 = K
      have bK : 0 ≤ K ∧ K ≤ 2 := hK ▸ within_le (by omega)
      refine n_sameP (.int .i64 K) rfl rfl rfl (fun _ w1 hp1 hI1 => hK ▸ within_ok kk 0 2 fk (by omega) (by omega) (by omega) w1) ?_; (refine st rfl ?_; conv => arg 3; whnf)
      have ja_lt : ja < i := by omega
      have jb_lt : jb < i := by omega
      have ba0 : b0 ≤ ba := hb00 _ (List.mem_of_getElem? hba)
      have bb0 : b0 ≤ bb := hb00 _ (List.mem_of_getElem? hbb')
      refine n_br (fun k0_ => ?_) (fun k0_ => ?_) <;> simp at k0_ <;> (refine st rfl ?_; conv => arg 3; whnf)
      · obtain ⟨s', tok, he, fair'⟩ := fair.move ja_lt jb_lt (p := (ls ja).d) (q := (ls ja).u) ⟨(fair.ok ja ja_lt).d0, Int.le_refl _⟩ ⟨(fair.ok ja ja_lt).u0, Int.le_refl _⟩
        (repeat (first | (refine n_must rfl ?_; (refine st rfl ?_; conv => arg 3; whnf)) | (refine n_chk (drawF_ok (by decide +kernel)) ?_; (refine st rfl ?_; conv => arg 3; whnf)) | (refine n_same rfl ?_; (refine st rfl ?_; conv => arg 3; whnf)) | (refine n_must ?_ ?_; (focus (first | (simp; done) | (simp; omega))); (refine st rfl ?_; conv => arg 3; whnf)) | (refine n_brT ?_ ?_; (focus (first | (simp; done) | (simp; omega))); (refine st rfl ?_; conv => arg 3; whnf)) | (refine n_brF ?_ ?_; (focus (first | (simp; done) | (simp; omega))); (refine st rfl ?_; conv => arg 3; whnf))))
        refine n_led 1 ja ba ((ls ja).take (ls ja).d (ls ja).u) (.agg [.int .i64 (ls ja).d, .int .i64 (ls ja).u]) rfl rfl rfl rfl hnd hba (fun ids' w1 hp1 hI1 hblk => All_take (ls ja) hblk) ?_
        (refine st rfl ?_; conv => arg 3; whnf)
        (repeat (first | (refine n_must rfl ?_; (refine st rfl ?_; conv => arg 3; whnf)) | (refine n_chk (drawF_ok (by decide +kernel)) ?_; (refine st rfl ?_; conv => arg 3; whnf)) | (refine n_same rfl ?_; (refine st rfl ?_; conv => arg 3; whnf)) | (refine n_must ?_ ?_; (focus (first | (simp; done) | (simp; omega))); (refine st rfl ?_; conv => arg 3; whnf)) | (refine n_brT ?_ ?_; (focus (first | (simp; done) | (simp; omega))); (refine st rfl ?_; conv => arg 3; whnf)) | (refine n_brF ?_ ?_; (focus (first | (simp; done) | (simp; omega))); (refine st rfl ?_; conv => arg 3; whnf))))
        refine n_led 1 jb bb (s') (.int .i64 0) rfl rfl rfl rfl hnd hbb' (fun ids' w1 hp1 hI1 hblk => In_at (r := .ok) (hs.frm hI1.frm hS hB) bb0 (Nat.le_trans hB hI1.frm.size) _ _ tok he hblk) ?_
        (refine st rfl ?_; conv => arg 3; whnf)
        (repeat (first | (refine n_must rfl ?_; (refine st rfl ?_; conv => arg 3; whnf)) | (refine n_chk (drawF_ok (by decide +kernel)) ?_; (refine st rfl ?_; conv => arg 3; whnf)) | (refine n_same rfl ?_; (refine st rfl ?_; conv => arg 3; whnf)) | (refine n_must ?_ ?_; (focus (first | (simp; done) | (simp; omega))); (refine st rfl ?_; conv => arg 3; whnf)) | (refine n_brT ?_ ?_; (focus (first | (simp; done) | (simp; omega))); (refine st rfl ?_; conv => arg 3; whnf)) | (refine n_brF ?_ ?_; (focus (first | (simp; done) | (simp; omega))); (refine st rfl ?_; conv => arg 3; whnf))))
        have pos1 : ∀ j, j < i → 0 ≤ (upd (upd ls ja ((ls ja).take (ls ja).d (ls ja).u)) jb s' j).all := fun j hj => ((fair').ok j hj).all_nonneg
        have pos2 : ∀ j, j < i → 0 ≤ (upd (upd ls ja ((ls ja).take (ls ja).d (ls ja).u)) jb s' j).d := fun j hj => ((fair').ok j hj).d0
        have f1 := (fair').sum
        have f2 := (fair').down
        obtain ⟨f3, f4⟩ := (fair').bounds
        refine n_loop1 rfl fun _ => ?_
        refine n_loop (σ := Nat) (fun t => [(0, .int .i64 L), (1, .int .i64 (i : Int)), (3, .raw (.slice (some ad) n cap)), (10, .raw (.slice (some ⟨g, 0, none⟩) i ca)), (15, .int .i64 (v)), (16, .int .i64 (q : Nat)), (25, .int .i64 (sumTo (fun k => (upd (upd ls ja ((ls ja).take (ls ja).d (ls ja).u)) jb s' k).all) t)), (26, .int .i64 (sumTo (fun k => (upd (upd ls ja ((ls ja).take (ls ja).d (ls ja).u)) jb s' k).d) t)), (27, .int .i64 (t : Nat))]) (fun _ => _) (fun t => t ≤ i) (fun t => i - t) 0 mixed (by simp) (fun _ _ => rfl) rfl (by (repeat (first | exact trivial | refine ⟨⟨rfl, rfl⟩, ?_⟩))) (fun s _ => ⟨by (repeat (first | exact trivial | refine ⟨⟨_, rfl⟩, ?_⟩)), by (repeat (first | exact trivial | refine ⟨⟨_, rfl⟩, ?_⟩))⟩) fun t ht => ?_
        (refine st rfl ?_; conv => arg 3; whnf)
        by_cases htl : t < i
        · have et : IntKind.i64.wrap ((t : Int) + 1) = ((t + 1 : Nat) : Int) := by rw [w64 (by omega) (by omega)]; simp
          have g1 := sumTo_mono pos1 (show t + 1 ≤ i by omega)
          have g2 := sumTo_mono pos2 (show t + 1 ≤ i by omega)
          have g3 := sumTo_nonneg (f := fun k => (upd (upd ls ja ((ls ja).take (ls ja).d (ls ja).u)) jb s' k).all) (n := t) (fun j hj => pos1 j (by omega))
          have g4 := sumTo_nonneg (f := fun k => (upd (upd ls ja ((ls ja).take (ls ja).d (ls ja).u)) jb s' k).d) (n := t) (fun j hj => pos2 j (by omega))
          have p1 := pos1 t htl
          have p2 := pos2 t htl
          rw [f1] at g1
          rw [f2] at g2
          have e1 : IntKind.i64.wrap (sumTo (fun k => (upd (upd ls ja ((ls ja).take (ls ja).d (ls ja).u)) jb s' k).all) t + (upd (upd ls ja ((ls ja).take (ls ja).d (ls ja).u)) jb s' t).all) = sumTo (fun k => (upd (upd ls ja ((ls ja).take (ls ja).d (ls ja).u)) jb s' k).all) (t + 1) := by simp only [sumTo] at g1 ⊢; exact w64 (by omega) (by omega)
          have e2 : IntKind.i64.wrap (sumTo (fun k => (upd (upd ls ja ((ls ja).take (ls ja).d (ls ja).u)) jb s' k).d) t + (upd (upd ls ja ((ls ja).take (ls ja).d (ls ja).u)) jb s' t).d) = sumTo (fun k => (upd (upd ls ja ((ls ja).take (ls ja).d (ls ja).u)) jb s' k).d) (t + 1) := by simp only [sumTo] at g2 ⊢; exact w64 (by omega) (by omega)
          obtain ⟨bt, hbt⟩ := hat t htl
          (repeat (first | (refine n_must rfl ?_; (refine st rfl ?_; conv => arg 3; whnf)) | (refine n_chk (drawF_ok (by decide +kernel)) ?_; (refine st rfl ?_; conv => arg 3; whnf)) | (refine n_same rfl ?_; (refine st rfl ?_; conv => arg 3; whnf)) | (refine n_must ?_ ?_; (focus (first | (simp; done) | (simp; omega))); (refine st rfl ?_; conv => arg 3; whnf)) | (refine n_brT ?_ ?_; (focus (first | (simp; done) | (simp; omega))); (refine st rfl ?_; conv => arg 3; whnf)) | (refine n_brF ?_ ?_; (focus (first | (simp; done) | (simp; omega))); (refine st rfl ?_; conv => arg 3; whnf))))
          refine n_ldI (.raw (.pointer (some ⟨bt, 0, none⟩))) rfl rfl (fun ids' w1 hp1 hI1 => ld_ptr (hI1.res 0 rfl rfl) hbt (by simp)) ?_
          (refine st rfl ?_; conv => arg 3; whnf)
          (repeat (first | (refine n_must rfl ?_; (refine st rfl ?_; conv => arg 3; whnf)) | (refine n_chk (drawF_ok (by decide +kernel)) ?_; (refine st rfl ?_; conv => arg 3; whnf)) | (refine n_same rfl ?_; (refine st rfl ?_; conv => arg 3; whnf)) | (refine n_must ?_ ?_; (focus (first | (simp; done) | (simp; omega))); (refine st rfl ?_; conv => arg 3; whnf)) | (refine n_brT ?_ ?_; (focus (first | (simp; done) | (simp; omega))); (refine st rfl ?_; conv => arg 3; whnf)) | (refine n_brF ?_ ?_; (focus (first | (simp; done) | (simp; omega))); (refine st rfl ?_; conv => arg 3; whnf))))
          refine n_sameP (.int .i64 ((upd (upd ls ja ((ls ja).take (ls ja).d (ls ja).u)) jb s' t).all)) rfl rfl rfl (fun _ w1 hp1 hI1 => sum_ok _ ((fair').ok t htl) (hI1.res 1 rfl rfl t bt hbt)) ?_; (refine st rfl ?_; conv => arg 3; whnf)
          (repeat (first | (refine n_must rfl ?_; (refine st rfl ?_; conv => arg 3; whnf)) | (refine n_chk (drawF_ok (by decide +kernel)) ?_; (refine st rfl ?_; conv => arg 3; whnf)) | (refine n_same rfl ?_; (refine st rfl ?_; conv => arg 3; whnf)) | (refine n_must ?_ ?_; (focus (first | (simp; done) | (simp; omega))); (refine st rfl ?_; conv => arg 3; whnf)) | (refine n_brT ?_ ?_; (focus (first | (simp; done) | (simp; omega))); (refine st rfl ?_; conv => arg 3; whnf)) | (refine n_brF ?_ ?_; (focus (first | (simp; done) | (simp; omega))); (refine st rfl ?_; conv => arg 3; whnf))))
          refine n_ldI (.raw (.pointer (some ⟨bt, 0, none⟩))) rfl rfl (fun ids' w1 hp1 hI1 => ld_ptr (hI1.res 0 rfl rfl) hbt (by simp)) ?_
          (refine st rfl ?_; conv => arg 3; whnf)
          (repeat (first | (refine n_must rfl ?_; (refine st rfl ?_; conv => arg 3; whnf)) | (refine n_chk (drawF_ok (by decide +kernel)) ?_; (refine st rfl ?_; conv => arg 3; whnf)) | (refine n_same rfl ?_; (refine st rfl ?_; conv => arg 3; whnf)) | (refine n_must ?_ ?_; (focus (first | (simp; done) | (simp; omega))); (refine st rfl ?_; conv => arg 3; whnf)) | (refine n_brT ?_ ?_; (focus (first | (simp; done) | (simp; omega))); (refine st rfl ?_; conv => arg 3; whnf)) | (refine n_brF ?_ ?_; (focus (first | (simp; done) | (simp; omega))); (refine st rfl ?_; conv => arg 3; whnf))))
          refine n_sameP (.agg [.int .i64 ((upd (upd ls ja ((ls ja).take (ls ja).d (ls ja).u)) jb s' t).d), .int .i64 ((upd (upd ls ja ((ls ja).take (ls ja).d (ls ja).u)) jb s' t).u)]) rfl rfl rfl (fun _ w1 hp1 hI1 => Rights_ok _ (hI1.res 1 rfl rfl t bt hbt)) ?_; (refine st rfl ?_; conv => arg 3; whnf)
          (repeat (first | (refine n_must rfl ?_; (refine st rfl ?_; conv => arg 3; whnf)) | (refine n_chk (drawF_ok (by decide +kernel)) ?_; (refine st rfl ?_; conv => arg 3; whnf)) | (refine n_same rfl ?_; (refine st rfl ?_; conv => arg 3; whnf)) | (refine n_must ?_ ?_; (focus (first | (simp; done) | (simp; omega))); (refine st rfl ?_; conv => arg 3; whnf)) | (refine n_brT ?_ ?_; (focus (first | (simp; done) | (simp; omega))); (refine st rfl ?_; conv => arg 3; whnf)) | (refine n_brF ?_ ?_; (focus (first | (simp; done) | (simp; omega))); (refine st rfl ?_; conv => arg 3; whnf))))
          exact n_again ⟨t + 1, by omega, by omega, (by (repeat (first | exact trivial | refine ⟨⟨rfl, rfl⟩, ?_⟩ | refine ⟨⟨rfl, congrArg (SV.int .i64) et⟩, ?_⟩ | refine ⟨⟨rfl, congrArg (SV.int .i64) e1⟩, ?_⟩ | refine ⟨⟨rfl, congrArg (SV.int .i64) e2⟩, ?_⟩))), ⟨[], rfl⟩⟩
        · obtain rfl : t = i := by omega
          (repeat (first | (refine n_must rfl ?_; (refine st rfl ?_; conv => arg 3; whnf)) | (refine n_chk (drawF_ok (by decide +kernel)) ?_; (refine st rfl ?_; conv => arg 3; whnf)) | (refine n_same rfl ?_; (refine st rfl ?_; conv => arg 3; whnf)) | (refine n_must ?_ ?_; (focus (first | (simp; done) | (simp; omega))); (refine st rfl ?_; conv => arg 3; whnf)) | (refine n_brT ?_ ?_; (focus (first | (simp; done) | (simp; omega))); (refine st rfl ?_; conv => arg 3; whnf)) | (refine n_brF ?_ ?_; (focus (first | (simp; done) | (simp; omega))); (refine st rfl ?_; conv => arg 3; whnf))))
          refine n_exit rfl ?_
          (refine st rfl ?_; conv => arg 3; whnf)
          (repeat (first | (refine n_must rfl ?_; (refine st rfl ?_; conv => arg 3; whnf)) | (refine n_chk (drawF_ok (by decide +kernel)) ?_; (refine st rfl ?_; conv => arg 3; whnf)) | (refine n_same rfl ?_; (refine st rfl ?_; conv => arg 3; whnf)) | (refine n_must ?_ ?_; (focus (first | (simp [f1, f2]; done) | (simp [f1, f2]; omega) | (simp only [f1, f2]; simp; done))); (refine st rfl ?_; conv => arg 3; whnf)) | (refine n_brT ?_ ?_; (focus (first | (simp [f1, f2]; done) | (simp [f1, f2]; omega) | (simp only [f1, f2]; simp; done))); (refine st rfl ?_; conv => arg 3; whnf)) | (refine n_brF ?_ ?_; (focus (first | (simp [f1, f2]; done) | (simp [f1, f2]; omega) | (simp only [f1, f2]; simp; done))); (refine st rfl ?_; conv => arg 3; whnf))))
          exact n_again ⟨(q + 1, upd (upd ls ja ((ls ja).take (ls ja).d (ls ja).u)) jb s', v), ⟨by dsimp only; omega, fair'⟩, by dsimp only; omega, (by (repeat (first | exact trivial | refine ⟨⟨rfl, rfl⟩, ?_⟩ | refine ⟨⟨rfl, congrArg (SV.int .i64) eq⟩, ?_⟩))), ⟨_, rfl⟩⟩
      · refine n_br (fun k1_ => ?_) (fun k1_ => ?_) <;> simp at k1_ <;> (refine st rfl ?_; conv => arg 3; whnf)
        · obtain ⟨s1, r1, he⟩ : ∃ s1 r1, (ls ja).out a b = (s1, r1) := ⟨_, _, rfl⟩
          (repeat (first | (refine n_must rfl ?_; (refine st rfl ?_; conv => arg 3; whnf)) | (refine n_chk (drawF_ok (by decide +kernel)) ?_; (refine st rfl ?_; conv => arg 3; whnf)) | (refine n_same rfl ?_; (refine st rfl ?_; conv => arg 3; whnf)) | (refine n_must ?_ ?_; (focus (first | (simp; done) | (simp; omega))); (refine st rfl ?_; conv => arg 3; whnf)) | (refine n_brT ?_ ?_; (focus (first | (simp; done) | (simp; omega))); (refine st rfl ?_; conv => arg 3; whnf)) | (refine n_brF ?_ ?_; (focus (first | (simp; done) | (simp; omega))); (refine st rfl ?_; conv => arg 3; whnf))))
          cases r1 with
          | ok =>
            obtain ⟨rfl, hp, hq⟩ := out_fine he
            obtain ⟨s', tok, he2, fair'⟩ := fair.move ja_lt jb_lt hp hq
            refine n_led 1 ja ba ((ls ja).take a b) (.int .i64 0) rfl rfl rfl rfl hnd hba (fun ids' w1 hp1 hI1 hblk => Out_at (r := .ok) (hs.frm hI1.frm hS hB) ba0 (Nat.le_trans hB hI1.frm.size) a b (fair.ok ja ja_lt) he hblk) ?_
            (refine st rfl ?_; conv => arg 3; whnf)
            (repeat (first | (refine n_must rfl ?_; (refine st rfl ?_; conv => arg 3; whnf)) | (refine n_chk (drawF_ok (by decide +kernel)) ?_; (refine st rfl ?_; conv => arg 3; whnf)) | (refine n_same rfl ?_; (refine st rfl ?_; conv => arg 3; whnf)) | (refine n_must ?_ ?_; (focus (first | (simp; done) | (simp; omega))); (refine st rfl ?_; conv => arg 3; whnf)) | (refine n_brT ?_ ?_; (focus (first | (simp; done) | (simp; omega))); (refine st rfl ?_; conv => arg 3; whnf)) | (refine n_brF ?_ ?_; (focus (first | (simp; done) | (simp; omega))); (refine st rfl ?_; conv => arg 3; whnf))))
            refine n_led 1 jb bb (s') (.int .i64 0) rfl rfl rfl rfl hnd hbb' (fun ids' w1 hp1 hI1 hblk => In_at (r := .ok) (hs.frm hI1.frm hS hB) bb0 (Nat.le_trans hB hI1.frm.size) _ _ tok he2 hblk) ?_
            (refine st rfl ?_; conv => arg 3; whnf)
            (repeat (first | (refine n_must rfl ?_; (refine st rfl ?_; conv => arg 3; whnf)) | (refine n_chk (drawF_ok (by decide +kernel)) ?_; (refine st rfl ?_; conv => arg 3; whnf)) | (refine n_same rfl ?_; (refine st rfl ?_; conv => arg 3; whnf)) | (refine n_must ?_ ?_; (focus (first | (simp; done) | (simp; omega))); (refine st rfl ?_; conv => arg 3; whnf)) | (refine n_brT ?_ ?_; (focus (first | (simp; done) | (simp; omega))); (refine st rfl ?_; conv => arg 3; whnf)) | (refine n_brF ?_ ?_; (focus (first | (simp; done) | (simp; omega))); (refine st rfl ?_; conv => arg 3; whnf))))
            have pos1 : ∀ j, j < i → 0 ≤ (upd (upd ls ja ((ls ja).take a b)) jb s' j).all := fun j hj => ((fair').ok j hj).all_nonneg
            have pos2 : ∀ j, j < i → 0 ≤ (upd (upd ls ja ((ls ja).take a b)) jb s' j).d := fun j hj => ((fair').ok j hj).d0
            have f1 := (fair').sum
            have f2 := (fair').down
            obtain ⟨f3, f4⟩ := (fair').bounds
            refine n_loop2 rfl fun _ _ => ?_
            refine n_loop (σ := Nat) (fun t => [(0, .int .i64 L), (1, .int .i64 (i : Int)), (3, .raw (.slice (some ad) n cap)), (10, .raw (.slice (some ⟨g, 0, none⟩) i ca)), (15, .int .i64 (v)), (16, .int .i64 (q : Nat)), (25, .int .i64 (sumTo (fun k => (upd (upd ls ja ((ls ja).take a b)) jb s' k).all) t)), (26, .int .i64 (sumTo (fun k => (upd (upd ls ja ((ls ja).take a b)) jb s' k).d) t)), (27, .int .i64 (t : Nat))]) (fun _ => _) (fun t => t ≤ i) (fun t => i - t) 0 mixed (by simp) (fun _ _ => rfl) rfl (by (repeat (first | exact trivial | refine ⟨⟨rfl, rfl⟩, ?_⟩))) (fun s _ => ⟨by (repeat (first | exact trivial | refine ⟨⟨_, rfl⟩, ?_⟩)), by (repeat (first | exact trivial | refine ⟨⟨_, rfl⟩, ?_⟩))⟩) fun t ht => ?_
            (refine st rfl ?_; conv => arg 3; whnf)
            by_cases htl : t < i
            · have et : IntKind.i64.wrap ((t : Int) + 1) = ((t + 1 : Nat) : Int) := by rw [w64 (by omega) (by omega)]; simp
              have g1 := sumTo_mono pos1 (show t + 1 ≤ i by omega)
              have g2 := sumTo_mono pos2 (show t + 1 ≤ i by omega)
              have g3 := sumTo_nonneg (f := fun k => (upd (upd ls ja ((ls ja).take a b)) jb s' k).all) (n := t) (fun j hj => pos1 j (by omega))
              have g4 := sumTo_nonneg (f := fun k => (upd (upd ls ja ((ls ja).take a b)) jb s' k).d) (n := t) (fun j hj => pos2 j (by omega))
              have p1 := pos1 t htl
              have p2 := pos2 t htl
              rw [f1] at g1
              rw [f2] at g2
              have e1 : IntKind.i64.wrap (sumTo (fun k => (upd (upd ls ja ((ls ja).take a b)) jb s' k).all) t + (upd (upd ls ja ((ls ja).take a b)) jb s' t).all) = sumTo (fun k => (upd (upd ls ja ((ls ja).take a b)) jb s' k).all) (t + 1) := by simp only [sumTo] at g1 ⊢; exact w64 (by omega) (by omega)
              have e2 : IntKind.i64.wrap (sumTo (fun k => (upd (upd ls ja ((ls ja).take a b)) jb s' k).d) t + (upd (upd ls ja ((ls ja).take a b)) jb s' t).d) = sumTo (fun k => (upd (upd ls ja ((ls ja).take a b)) jb s' k).d) (t + 1) := by simp only [sumTo] at g2 ⊢; exact w64 (by omega) (by omega)
              obtain ⟨bt, hbt⟩ := hat t htl
              (repeat (first | (refine n_must rfl ?_; (refine st rfl ?_; conv => arg 3; whnf)) | (refine n_chk (drawF_ok (by decide +kernel)) ?_; (refine st rfl ?_; conv => arg 3; whnf)) | (refine n_same rfl ?_; (refine st rfl ?_; conv => arg 3; whnf)) | (refine n_must ?_ ?_; (focus (first | (simp; done) | (simp; omega))); (refine st rfl ?_; conv => arg 3; whnf)) | (refine n_brT ?_ ?_; (focus (first | (simp; done) | (simp; omega))); (refine st rfl ?_; conv => arg 3; whnf)) | (refine n_brF ?_ ?_; (focus (first | (simp; done) | (simp; omega))); (refine st rfl ?_; conv => arg 3; whnf))))
              refine n_ldI (.raw (.pointer (some ⟨bt, 0, none⟩))) rfl rfl (fun ids' w1 hp1 hI1 => ld_ptr (hI1.res 0 rfl rfl) hbt (by simp)) ?_
              (refine st rfl ?_; conv => arg 3; whnf)
              (repeat (first | (refine n_must rfl ?_; (refine st rfl ?_; conv => arg 3; whnf)) | (refine n_chk (drawF_ok (by decide +kernel)) ?_; (refine st rfl ?_; conv => arg 3; whnf)) | (refine n_same rfl ?_; (refine st rfl ?_; conv => arg 3; whnf)) | (refine n_must ?_ ?_; (focus (first | (simp; done) | (simp; omega))); (refine st rfl ?_; conv => arg 3; whnf)) | (refine n_brT ?_ ?_; (focus (first | (simp; done) | (simp; omega))); (refine st rfl ?_; conv => arg 3; whnf)) | (refine n_brF ?_ ?_; (focus (first | (simp; done) | (simp; omega))); (refine st rfl ?_; conv => arg 3; whnf))))
              refine n_sameP (.int .i64 ((upd (upd ls ja ((ls ja).take a b)) jb s' t).all)) rfl rfl rfl (fun _ w1 hp1 hI1 => sum_ok _ ((fair').ok t htl) (hI1.res 1 rfl rfl t bt hbt)) ?_; (refine st rfl ?_; conv => arg 3; whnf)
              (repeat (first | (refine n_must rfl ?_; (refine st rfl ?_; conv => arg 3; whnf)) | (refine n_chk (drawF_ok (by decide +kernel)) ?_; (refine st rfl ?_; conv => arg 3; whnf)) | (refine n_same rfl ?_; (refine st rfl ?_; conv => arg 3; whnf)) | (refine n_must ?_ ?_; (focus (first | (simp; done) | (simp; omega))); (refine st rfl ?_; conv => arg 3; whnf)) | (refine n_brT ?_ ?_; (focus (first | (simp; done) | (simp; omega))); (refine st rfl ?_; conv => arg 3; whnf)) | (refine n_brF ?_ ?_; (focus (first | (simp; done) | (simp; omega))); (refine st rfl ?_; conv => arg 3; whnf))))
              refine n_ldI (.raw (.pointer (some ⟨bt, 0, none⟩))) rfl rfl (fun ids' w1 hp1 hI1 => ld_ptr (hI1.res 0 rfl rfl) hbt (by simp)) ?_
              (refine st rfl ?_; conv => arg 3; whnf)
              (repeat (first | (refine n_must rfl ?_; (refine st rfl ?_; conv => arg 3; whnf)) | (refine n_chk (drawF_ok (by decide +kernel)) ?_; (refine st rfl ?_; conv => arg 3; whnf)) | (refine n_same rfl ?_; (refine st rfl ?_; conv => arg 3; whnf)) | (refine n_must ?_ ?_; (focus (first | (simp; done) | (simp; omega))); (refine st rfl ?_; conv => arg 3; whnf)) | (refine n_brT ?_ ?_; (focus (first | (simp; done) | (simp; omega))); (refine st rfl ?_; conv => arg 3; whnf)) | (refine n_brF ?_ ?_; (focus (first | (simp; done) | (simp; omega))); (refine st rfl ?_; conv => arg 3; whnf))))
              refine n_sameP (.agg [.int .i64 ((upd (upd ls ja ((ls ja).take a b)) jb s' t).d), .int .i64 ((upd (upd ls ja ((ls ja).take a b)) jb s' t).u)]) rfl rfl rfl (fun _ w1 hp1 hI1 => Rights_ok _ (hI1.res 1 rfl rfl t bt hbt)) ?_; (refine st rfl ?_; conv => arg 3; whnf)
              (repeat (first | (refine n_must rfl ?_; (refine st rfl ?_; conv => arg 3; whnf)) | (refine n_chk (drawF_ok (by decide +kernel)) ?_; (refine st rfl ?_; conv => arg 3; whnf)) | (refine n_same rfl ?_; (refine st rfl ?_; conv => arg 3; whnf)) | (refine n_must ?_ ?_; (focus (first | (simp; done) | (simp; omega))); (refine st rfl ?_; conv => arg 3; whnf)) | (refine n_brT ?_ ?_; (focus (first | (simp; done) | (simp; omega))); (refine st rfl ?_; conv => arg 3; whnf)) | (refine n_brF ?_ ?_; (focus (first | (simp; done) | (simp; omega))); (refine st rfl ?_; conv => arg 3; whnf))))
              exact n_again ⟨t + 1, by omega, by omega, (by (repeat (first | exact trivial | refine ⟨⟨rfl, rfl⟩, ?_⟩ | refine ⟨⟨rfl, congrArg (SV.int .i64) et⟩, ?_⟩ | refine ⟨⟨rfl, congrArg (SV.int .i64) e1⟩, ?_⟩ | refine ⟨⟨rfl, congrArg (SV.int .i64) e2⟩, ?_⟩))), ⟨[], rfl⟩⟩
            · obtain rfl : t = i := by omega
              (repeat (first | (refine n_must rfl ?_; (refine st rfl ?_; conv => arg 3; whnf)) | (refine n_chk (drawF_ok (by decide +kernel)) ?_; (refine st rfl ?_; conv => arg 3; whnf)) | (refine n_same rfl ?_; (refine st rfl ?_; conv => arg 3; whnf)) | (refine n_must ?_ ?_; (focus (first | (simp; done) | (simp; omega))); (refine st rfl ?_; conv => arg 3; whnf)) | (refine n_brT ?_ ?_; (focus (first | (simp; done) | (simp; omega))); (refine st rfl ?_; conv => arg 3; whnf)) | (refine n_brF ?_ ?_; (focus (first | (simp; done) | (simp; omega))); (refine st rfl ?_; conv => arg 3; whnf))))
              refine n_exit rfl ?_
              (refine st rfl ?_; conv => arg 3; whnf)
              (repeat (first | (refine n_must rfl ?_; (refine st rfl ?_; conv => arg 3; whnf)) | (refine n_chk (drawF_ok (by decide +kernel)) ?_; (refine st rfl ?_; conv => arg 3; whnf)) | (refine n_same rfl ?_; (refine st rfl ?_; conv => arg 3; whnf)) | (refine n_must ?_ ?_; (focus (first | (simp [f1, f2]; done) | (simp [f1, f2]; omega) | (simp only [f1, f2]; simp; done))); (refine st rfl ?_; conv => arg 3; whnf)) | (refine n_brT ?_ ?_; (focus (first | (simp [f1, f2]; done) | (simp [f1, f2]; omega) | (simp only [f1, f2]; simp; done))); (refine st rfl ?_; conv => arg 3; whnf)) | (refine n_brF ?_ ?_; (focus (first | (simp [f1, f2]; done) | (simp [f1, f2]; omega) | (simp only [f1, f2]; simp; done))); (refine st rfl ?_; conv => arg 3; whnf))))
              exact n_again ⟨(q + 1, upd (upd ls ja ((ls ja).take a b)) jb s', v), ⟨by dsimp only; omega, fair'⟩, by dsimp only; omega, (by (repeat (first | exact trivial | refine ⟨⟨rfl, rfl⟩, ?_⟩ | refine ⟨⟨rfl, congrArg (SV.int .i64) eq⟩, ?_⟩))), ⟨_, rfl⟩⟩
          | arg =>
            obtain rfl := out_err he (by simp)
            have fair' := fair.same ja
            refine n_led 1 ja ba (ls ja) (.int .i64 1) rfl rfl rfl rfl hnd hba (fun ids' w1 hp1 hI1 hblk => Out_at (hs.frm hI1.frm hS hB) ba0 (Nat.le_trans hB hI1.frm.size) a b (fair.ok ja ja_lt) he hblk) ?_
            (refine st rfl ?_; conv => arg 3; whnf)
            (repeat (first | (refine n_must rfl ?_; (refine st rfl ?_; conv => arg 3; whnf)) | (refine n_chk (drawF_ok (by decide +kernel)) ?_; (refine st rfl ?_; conv => arg 3; whnf)) | (refine n_same rfl ?_; (refine st rfl ?_; conv => arg 3; whnf)) | (refine n_must ?_ ?_; (focus (first | (simp; done) | (simp; omega))); (refine st rfl ?_; conv => arg 3; whnf)) | (refine n_brT ?_ ?_; (focus (first | (simp; done) | (simp; omega))); (refine st rfl ?_; conv => arg 3; whnf)) | (refine n_brF ?_ ?_; (focus (first | (simp; done) | (simp; omega))); (refine st rfl ?_; conv => arg 3; whnf))))
            have pos1 : ∀ j, j < i → 0 ≤ (upd ls ja (ls ja) j).all := fun j hj => ((fair').ok j hj).all_nonneg
            have pos2 : ∀ j, j < i → 0 ≤ (upd ls ja (ls ja) j).d := fun j hj => ((fair').ok j hj).d0
            have f1 := (fair').sum
            have f2 := (fair').down
            obtain ⟨f3, f4⟩ := (fair').bounds
            refine n_loop2 rfl fun _ _ => ?_
            refine n_loop (σ := Nat) (fun t => [(0, .int .i64 L), (1, .int .i64 (i : Int)), (3, .raw (.slice (some ad) n cap)), (10, .raw (.slice (some ⟨g, 0, none⟩) i ca)), (15, .int .i64 (v)), (16, .int .i64 (q : Nat)), (25, .int .i64 (sumTo (fun k => (upd ls ja (ls ja) k).all) t)), (26, .int .i64 (sumTo (fun k => (upd ls ja (ls ja) k).d) t)), (27, .int .i64 (t : Nat))]) (fun _ => _) (fun t => t ≤ i) (fun t => i - t) 0 mixed (by simp) (fun _ _ => rfl) rfl (by (repeat (first | exact trivial | refine ⟨⟨rfl, rfl⟩, ?_⟩))) (fun s _ => ⟨by (repeat (first | exact trivial | refine ⟨⟨_, rfl⟩, ?_⟩)), by (repeat (first | exact trivial | refine ⟨⟨_, rfl⟩, ?_⟩))⟩) fun t ht => ?_
            (refine st rfl ?_; conv => arg 3; whnf)
            by_cases htl : t < i
            · have et : IntKind.i64.wrap ((t : Int) + 1) = ((t + 1 : Nat) : Int) := by rw [w64 (by omega) (by omega)]; simp
              have g1 := sumTo_mono pos1 (show t + 1 ≤ i by omega)
              have g2 := sumTo_mono pos2 (show t + 1 ≤ i by omega)
              have g3 := sumTo_nonneg (f := fun k => (upd ls ja (ls ja) k).all) (n := t) (fun j hj => pos1 j (by omega))
              have g4 := sumTo_nonneg (f := fun k => (upd ls ja (ls ja) k).d) (n := t) (fun j hj => pos2 j (by omega))
              have p1 := pos1 t htl
              have p2 := pos2 t htl
              rw [f1] at g1
              rw [f2] at g2
              have e1 : IntKind.i64.wrap (sumTo (fun k => (upd ls ja (ls ja) k).all) t + (upd ls ja (ls ja) t).all) = sumTo (fun k => (upd ls ja (ls ja) k).all) (t + 1) := by simp only [sumTo] at g1 ⊢; exact w64 (by omega) (by omega)
              have e2 : IntKind.i64.wrap (sumTo (fun k => (upd ls ja (ls ja) k).d) t + (upd ls ja (ls ja) t).d) = sumTo (fun k => (upd ls ja (ls ja) k).d) (t + 1) := by simp only [sumTo] at g2 ⊢; exact w64 (by omega) (by omega)
              obtain ⟨bt, hbt⟩ := hat t htl
              (repeat (first | (refine n_must rfl ?_; (refine st rfl ?_; conv => arg 3; whnf)) | (refine n_chk (drawF_ok (by decide +kernel)) ?_; (refine st rfl ?_; conv => arg 3; whnf)) | (refine n_same rfl ?_; (refine st rfl ?_; conv => arg 3; whnf)) | (refine n_must ?_ ?_; (focus (first | (simp; done) | (simp; omega))); (refine st rfl ?_; conv => arg 3; whnf)) | (refine n_brT ?_ ?_; (focus (first | (simp; done) | (simp; omega))); (refine st rfl ?_; conv => arg 3; whnf)) | (refine n_brF ?_ ?_; (focus (first | (simp; done) | (simp; omega))); (refine st rfl ?_; conv => arg 3; whnf))))
              refine n_ldI (.raw (.pointer (some ⟨bt, 0, none⟩))) rfl rfl (fun ids' w1 hp1 hI1 => ld_ptr (hI1.res 0 rfl rfl) hbt (by simp)) ?_
              (refine st rfl ?_; conv => arg 3; whnf)
              (repeat (first | (refine n_must rfl ?_; (refine st rfl ?_; conv => arg 3; whnf)) | (refine n_chk (drawF_ok (by decide +kernel)) ?_; (refine st rfl ?_; conv => arg 3; whnf)) | (refine n_same rfl ?_; (refine st rfl ?_; conv => arg 3; whnf)) | (refine n_must ?_ ?_; (focus (first | (simp; done) | (simp; omega))); (refine st rfl ?_; conv => arg 3; whnf)) | (refine n_brT ?_ ?_; (focus (first | (simp; done) | (simp; omega))); (refine st rfl ?_; conv => arg 3; whnf)) | (refine n_brF ?_ ?_; (focus (first | (simp; done) | (simp; omega))); (refine st rfl ?_; conv => arg 3; whnf))))
              refine n_sameP (.int .i64 ((upd ls ja (ls ja) t).all)) rfl rfl rfl (fun _ w1 hp1 hI1 => sum_ok _ ((fair').ok t htl) (hI1.res 1 rfl rfl t bt hbt)) ?_; (refine st rfl ?_; conv => arg 3; whnf)
              (repeat (first | (refine n_must rfl ?_; (refine st rfl ?_; conv => arg 3; whnf)) | (refine n_chk (drawF_ok (by decide +kernel)) ?_; (refine st rfl ?_; conv => arg 3; whnf)) | (refine n_same rfl ?_; (refine st rfl ?_; conv => arg 3; whnf)) | (refine n_must ?_ ?_; (focus (first | (simp; done) | (simp; omega))); (refine st rfl ?_; conv => arg 3; whnf)) | (refine n_brT ?_ ?_; (focus (first | (simp; done) | (simp; omega))); (refine st rfl ?_; conv => arg 3; whnf)) | (refine n_brF ?_ ?_; (focus (first | (simp; done) | (simp; omega))); (refine st rfl ?_; conv => arg 3; whnf))))
              refine n_ldI (.raw (.pointer (some ⟨bt, 0, none⟩))) rfl rfl (fun ids' w1 hp1 hI1 => ld_ptr (hI1.res 0 rfl rfl) hbt (by simp)) ?_
              (refine st rfl ?_; conv => arg 3; whnf)
              (repeat (first | (refine n_must rfl ?_; (refine st rfl ?_; conv => arg 3; whnf)) | (refine n_chk (drawF_ok (by decide +kernel)) ?_; (refine st rfl ?_; conv => arg 3; whnf)) | (refine n_same rfl ?_; (refine st rfl ?_; conv => arg 3; whnf)) | (refine n_must ?_ ?_; (focus (first | (simp; done) | (simp; omega))); (refine st rfl ?_; conv => arg 3; whnf)) | (refine n_brT ?_ ?_; (focus (first | (simp; done) | (simp; omega))); (refine st rfl ?_; conv => arg 3; whnf)) | (refine n_brF ?_ ?_; (focus (first | (simp; done) | (simp; omega))); (refine st rfl ?_; conv => arg 3; whnf))))
              refine n_sameP (.agg [.int .i64 ((upd ls ja (ls ja) t).d), .int .i64 ((upd ls ja (ls ja) t).u)]) rfl rfl rfl (fun _ w1 hp1 hI1 => Rights_ok _ (hI1.res 1 rfl rfl t bt hbt)) ?_; (refine st rfl ?_; conv => arg 3; whnf)
              (repeat (first | (refine n_must rfl ?_; (refine st rfl ?_; conv => arg 3; whnf)) | (refine n_chk (drawF_ok (by decide +kernel)) ?_; (refine st rfl ?_; conv => arg 3; whnf)) | (refine n_same rfl ?_; (refine st rfl ?_; conv => arg 3; whnf)) | (refine n_must ?_ ?_; (focus (first | (simp; done) | (simp; omega))); (refine st rfl ?_; conv => arg 3; whnf)) | (refine n_brT ?_ ?_; (focus (first | (simp; done) | (simp; omega))); (refine st rfl ?_; conv => arg 3; whnf)) | (refine n_brF ?_ ?_; (focus (first | (simp; done) | (simp; omega))); (refine st rfl ?_; conv => arg 3; whnf))))
              exact n_again ⟨t + 1, by omega, by omega, (by (repeat (first | exact trivial | refine ⟨⟨rfl, rfl⟩, ?_⟩ | refine ⟨⟨rfl, congrArg (SV.int .i64) et⟩, ?_⟩ | refine ⟨⟨rfl, congrArg (SV.int .i64) e1⟩, ?_⟩ | refine ⟨⟨rfl, congrArg (SV.int .i64) e2⟩, ?_⟩))), ⟨[], rfl⟩⟩
            · obtain rfl : t = i := by omega
              (repeat (first | (refine n_must rfl ?_; (refine st rfl ?_; conv => arg 3; whnf)) | (refine n_chk (drawF_ok (by decide +kernel)) ?_; (refine st rfl ?_; conv => arg 3; whnf)) | (refine n_same rfl ?_; (refine st rfl ?_; conv => arg 3; whnf)) | (refine n_must ?_ ?_; (focus (first | (simp; done) | (simp; omega))); (refine st rfl ?_; conv => arg 3; whnf)) | (refine n_brT ?_ ?_; (focus (first | (simp; done) | (simp; omega))); (refine st rfl ?_; conv => arg 3; whnf)) | (refine n_brF ?_ ?_; (focus (first | (simp; done) | (simp; omega))); (refine st rfl ?_; conv => arg 3; whnf))))
              refine n_exit rfl ?_
              (refine st rfl ?_; conv => arg 3; whnf)
              (repeat (first | (refine n_must rfl ?_; (refine st rfl ?_; conv => arg 3; whnf)) | (refine n_chk (drawF_ok (by decide +kernel)) ?_; (refine st rfl ?_; conv => arg 3; whnf)) | (refine n_same rfl ?_; (refine st rfl ?_; conv => arg 3; whnf)) | (refine n_must ?_ ?_; (focus (first | (simp [f1, f2]; done) | (simp [f1, f2]; omega) | (simp only [f1, f2]; simp; done))); (refine st rfl ?_; conv => arg 3; whnf)) | (refine n_brT ?_ ?_; (focus (first | (simp [f1, f2]; done) | (simp [f1, f2]; omega) | (simp only [f1, f2]; simp; done))); (refine st rfl ?_; conv => arg 3; whnf)) | (refine n_brF ?_ ?_; (focus (first | (simp [f1, f2]; done) | (simp [f1, f2]; omega) | (simp only [f1, f2]; simp; done))); (refine st rfl ?_; conv => arg 3; whnf))))
              exact n_again ⟨(q + 1, upd ls ja (ls ja), v), ⟨by dsimp only; omega, fair'⟩, by dsimp only; omega, (by (repeat (first | exact trivial | refine ⟨⟨rfl, rfl⟩, ?_⟩ | refine ⟨⟨rfl, congrArg (SV.int .i64) eq⟩, ?_⟩))), ⟨_, rfl⟩⟩
          | rights =>
            obtain rfl := out_err he (by simp)
            have fair' := fair.same ja
            refine n_led 1 ja ba (ls ja) (.int .i64 60) rfl rfl rfl rfl hnd hba (fun ids' w1 hp1 hI1 hblk => Out_at (hs.frm hI1.frm hS hB) ba0 (Nat.le_trans hB hI1.frm.size) a b (fair.ok ja ja_lt) he hblk) ?_
            (refine st rfl ?_; conv => arg 3; whnf)
            (repeat (first | (refine n_must rfl ?_; (refine st rfl ?_; conv => arg 3; whnf)) | (refine n_chk (drawF_ok (by decide +kernel)) ?_; (refine st rfl ?_; conv => arg 3; whnf)) | (refine n_same rfl ?_; (refine st rfl ?_; conv => arg 3; whnf)) | (refine n_must ?_ ?_; (focus (first | (simp; done) | (simp; omega))); (refine st rfl ?_; conv => arg 3; whnf)) | (refine n_brT ?_ ?_; (focus (first | (simp; done) | (simp; omega))); (refine st rfl ?_; conv => arg 3; whnf)) | (refine n_brF ?_ ?_; (focus (first | (simp; done) | (simp; omega))); (refine st rfl ?_; conv => arg 3; whnf))))
            have pos1 : ∀ j, j < i → 0 ≤ (upd ls ja (ls ja) j).all := fun j hj => ((fair').ok j hj).all_nonneg
            have pos2 : ∀ j, j < i → 0 ≤ (upd ls ja (ls ja) j).d := fun j hj => ((fair').ok j hj).d0
            have f1 := (fair').sum
            have f2 := (fair').down
            obtain ⟨f3, f4⟩ := (fair').bounds
            refine n_loop2 rfl fun _ _ => ?_
            refine n_loop (σ := Nat) (fun t => [(0, .int .i64 L), (1, .int .i64 (i : Int)), (3, .raw (.slice (some ad) n cap)), (10, .raw (.slice (some ⟨g, 0, none⟩) i ca)), (15, .int .i64 (v)), (16, .int .i64 (q : Nat)), (25, .int .i64 (sumTo (fun k => (upd ls ja (ls ja) k).all) t)), (26, .int .i64 (sumTo (fun k => (upd ls ja (ls ja) k).d) t)), (27, .int .i64 (t : Nat))]) (fun _ => _) (fun t => t ≤ i) (fun t => i - t) 0 mixed (by simp) (fun _ _ => rfl) rfl (by (repeat (first | exact trivial | refine ⟨⟨rfl, rfl⟩, ?_⟩))) (fun s _ => ⟨by (repeat (first | exact trivial | refine ⟨⟨_, rfl⟩, ?_⟩)), by (repeat (first | exact trivial | refine ⟨⟨_, rfl⟩, ?_⟩))⟩) fun t ht => ?_
            (refine st rfl ?_; conv => arg 3; whnf)
            by_cases htl : t < i
            · have et : IntKind.i64.wrap ((t : Int) + 1) = ((t + 1 : Nat) : Int) := by rw [w64 (by omega) (by omega)]; simp
              have g1 := sumTo_mono pos1 (show t + 1 ≤ i by omega)
              have g2 := sumTo_mono pos2 (show t + 1 ≤ i by omega)
              have g3 := sumTo_nonneg (f := fun k => (upd ls ja (ls ja) k).all) (n := t) (fun j hj => pos1 j (by omega))
              have g4 := sumTo_nonneg (f := fun k => (upd ls ja (ls ja) k).d) (n := t) (fun j hj => pos2 j (by omega))
              have p1 := pos1 t htl
              have p2 := pos2 t htl
              rw [f1] at g1
              rw [f2] at g2
              have e1 : IntKind.i64.wrap (sumTo (fun k => (upd ls ja (ls ja) k).all) t + (upd ls ja (ls ja) t).all) = sumTo (fun k => (upd ls ja (ls ja) k).all) (t + 1) := by simp only [sumTo] at g1 ⊢; exact w64 (by omega) (by omega)
              have e2 : IntKind.i64.wrap (sumTo (fun k => (upd ls ja (ls ja) k).d) t + (upd ls ja (ls ja) t).d) = sumTo (fun k => (upd ls ja (ls ja) k).d) (t + 1) := by simp only [sumTo] at g2 ⊢; exact w64 (by omega) (by omega)
              obtain ⟨bt, hbt⟩ := hat t htl
              (repeat (first | (refine n_must rfl ?_; (refine st rfl ?_; conv => arg 3; whnf)) | (refine n_chk (drawF_ok (by decide +kernel)) ?_; (refine st rfl ?_; conv => arg 3; whnf)) | (refine n_same rfl ?_; (refine st rfl ?_; conv => arg 3; whnf)) | (refine n_must ?_ ?_; (focus (first | (simp; done) | (simp; omega))); (refine st rfl ?_; conv => arg 3; whnf)) | (refine n_brT ?_ ?_; (focus (first | (simp; done) | (simp; omega))); (refine st rfl ?_; conv => arg 3; whnf)) | (refine n_brF ?_ ?_; (focus (first | (simp; done) | (simp; omega))); (refine st rfl ?_; conv => arg 3; whnf))))
              refine n_ldI (.raw (.pointer (some ⟨bt, 0, none⟩))) rfl rfl (fun ids' w1 hp1 hI1 => ld_ptr (hI1.res 0 rfl rfl) hbt (by simp)) ?_
              (refine st rfl ?_; conv => arg 3; whnf)
              (repeat (first | (refine n_must rfl ?_; (refine st rfl ?_; conv => arg 3; whnf)) | (refine n_chk (drawF_ok (by decide +kernel)) ?_; (refine st rfl ?_; conv => arg 3; whnf)) | (refine n_same rfl ?_; (refine st rfl ?_; conv => arg 3; whnf)) | (refine n_must ?_ ?_; (focus (first | (simp; done) | (simp; omega))); (refine st rfl ?_; conv => arg 3; whnf)) | (refine n_brT ?_ ?_; (focus (first | (simp; done) | (simp; omega))); (refine st rfl ?_; conv => arg 3; whnf)) | (refine n_brF ?_ ?_; (focus (first | (simp; done) | (simp; omega))); (refine st rfl ?_; conv => arg 3; whnf))))
              refine n_sameP (.int .i64 ((upd ls ja (ls ja) t).all)) rfl rfl rfl (fun _ w1 hp1 hI1 => sum_ok _ ((fair').ok t htl) (hI1.res 1 rfl rfl t bt hbt)) ?_; (refine st rfl ?_; conv => arg 3; whnf)
              (repeat (first | (refine n_must rfl ?_; (refine st rfl ?_; conv => arg 3; whnf)) | (refine n_chk (drawF_ok (by decide +kernel)) ?_; (refine st rfl ?_; conv => arg 3; whnf)) | (refine n_same rfl ?_; (refine st rfl ?_; conv => arg 3; whnf)) | (refine n_must ?_ ?_; (focus (first | (simp; done) | (simp; omega))); (refine st rfl ?_; conv => arg 3; whnf)) | (refine n_brT ?_ ?_; (focus (first | (simp; done) | (simp; omega))); (refine st rfl ?_; conv => arg 3; whnf)) | (refine n_brF ?_ ?_; (focus (first | (simp; done) | (simp; omega))); (refine st rfl ?_; conv => arg 3; whnf))))
              refine n_ldI (.raw (.pointer (some ⟨bt, 0, none⟩))) rfl rfl (fun ids' w1 hp1 hI1 => ld_ptr (hI1.res 0 rfl rfl) hbt (by simp)) ?_
              (refine st rfl ?_; conv => arg 3; whnf)
              (repeat (first | (refine n_must rfl ?_; (refine st rfl ?_; conv => arg 3; whnf)) | (refine n_chk (drawF_ok (by decide +kernel)) ?_; (refine st rfl ?_; conv => arg 3; whnf)) | (refine n_same rfl ?_; (refine st rfl ?_; conv => arg 3; whnf)) | (refine n_must ?_ ?_; (focus (first | (simp; done) | (simp; omega))); (refine st rfl ?_; conv => arg 3; whnf)) | (refine n_brT ?_ ?_; (focus (first | (simp; done) | (simp; omega))); (refine st rfl ?_; conv => arg 3; whnf)) | (refine n_brF ?_ ?_; (focus (first | (simp; done) | (simp; omega))); (refine st rfl ?_; conv => arg 3; whnf))))
              refine n_sameP (.agg [.int .i64 ((upd ls ja (ls ja) t).d), .int .i64 ((upd ls ja (ls ja) t).u)]) rfl rfl rfl (fun _ w1 hp1 hI1 => Rights_ok _ (hI1.res 1 rfl rfl t bt hbt)) ?_; (refine st rfl ?_; conv => arg 3; whnf)
              (repeat (first | (refine n_must rfl ?_; (refine st rfl ?_; conv => arg 3; whnf)) | (refine n_chk (drawF_ok (by decide +kernel)) ?_; (refine st rfl ?_; conv => arg 3; whnf)) | (refine n_same rfl ?_; (refine st rfl ?_; conv => arg 3; whnf)) | (refine n_must ?_ ?_; (focus (first | (simp; done) | (simp; omega))); (refine st rfl ?_; conv => arg 3; whnf)) | (refine n_brT ?_ ?_; (focus (first | (simp; done) | (simp; omega))); (refine st rfl ?_; conv => arg 3; whnf)) | (refine n_brF ?_ ?_; (focus (first | (simp; done) | (simp; omega))); (refine st rfl ?_; conv => arg 3; whnf))))
              exact n_again ⟨t + 1, by omega, by omega, (by (repeat (first | exact trivial | refine ⟨⟨rfl, rfl⟩, ?_⟩ | refine ⟨⟨rfl, congrArg (SV.int .i64) et⟩, ?_⟩ | refine ⟨⟨rfl, congrArg (SV.int .i64) e1⟩, ?_⟩ | refine ⟨⟨rfl, congrArg (SV.int .i64) e2⟩, ?_⟩))), ⟨[], rfl⟩⟩
            · obtain rfl : t = i := by omega
              (repeat (first | (refine n_must rfl ?_; (refine st rfl ?_; conv => arg 3; whnf)) | (refine n_chk (drawF_ok (by decide +kernel)) ?_; (refine st rfl ?_; conv => arg 3; whnf)) | (refine n_same rfl ?_; (refine st rfl ?_; conv => arg 3; whnf)) | (refine n_must ?_ ?_; (focus (first | (simp; done) | (simp; omega))); (refine st rfl ?_; conv => arg 3; whnf)) | (refine n_brT ?_ ?_; (focus (first | (simp; done) | (simp; omega))); (refine st rfl ?_; conv => arg 3; whnf)) | (refine n_brF ?_ ?_; (focus (first | (simp; done) | (simp; omega))); (refine st rfl ?_; conv => arg 3; whnf))))
              refine n_exit rfl ?_
              (refine st rfl ?_; conv => arg 3; whnf)
              (repeat (first | (refine n_must rfl ?_; (refine st rfl ?_; conv => arg 3; whnf)) | (refine n_chk (drawF_ok (by decide +kernel)) ?_; (refine st rfl ?_; conv => arg 3; whnf)) | (refine n_same rfl ?_; (refine st rfl ?_; conv => arg 3; whnf)) | (refine n_must ?_ ?_; (focus (first | (simp [f1, f2]; done) | (simp [f1, f2]; omega) | (simp only [f1, f2]; simp; done))); (refine st rfl ?_; conv => arg 3; whnf)) | (refine n_brT ?_ ?_; (focus (first | (simp [f1, f2]; done) | (simp [f1, f2]; omega) | (simp only [f1, f2]; simp; done))); (refine st rfl ?_; conv => arg 3; whnf)) | (refine n_brF ?_ ?_; (focus (first | (simp [f1, f2]; done) | (simp [f1, f2]; omega) | (simp only [f1, f2]; simp; done))); (refine st rfl ?_; conv => arg 3; whnf))))
              exact n_again ⟨(q + 1, upd ls ja (ls ja), v), ⟨by dsimp only; omega, fair'⟩, by dsimp only; omega, (by (repeat (first | exact trivial | refine ⟨⟨rfl, rfl⟩, ?_⟩ | refine ⟨⟨rfl, congrArg (SV.int .i64) eq⟩, ?_⟩))), ⟨_, rfl⟩⟩
          | cap =>
            obtain rfl := out_err he (by simp)
            have fair' := fair.same ja
            refine n_led 1 ja ba (ls ja) (.int .i64 61) rfl rfl rfl rfl hnd hba (fun ids' w1 hp1 hI1 hblk => Out_at (hs.frm hI1.frm hS hB) ba0 (Nat.le_trans hB hI1.frm.size) a b (fair.ok ja ja_lt) he hblk) ?_
            (refine st rfl ?_; conv => arg 3; whnf)
            (repeat (first | (refine n_must rfl ?_; (refine st rfl ?_; conv => arg 3; whnf)) | (refine n_chk (drawF_ok (by decide +kernel)) ?_; (refine st rfl ?_; conv => arg 3; whnf)) | (refine n_same rfl ?_; (refine st rfl ?_; conv => arg 3; whnf)) | (refine n_must ?_ ?_; (focus (first | (simp; done) | (simp; omega))); (refine st rfl ?_; conv => arg 3; whnf)) | (refine n_brT ?_ ?_; (focus (first | (simp; done) | (simp; omega))); (refine st rfl ?_; conv => arg 3; whnf)) | (refine n_brF ?_ ?_; (focus (first | (simp; done) | (simp; omega))); (refine st rfl ?_; conv => arg 3; whnf))))
            have pos1 : ∀ j, j < i → 0 ≤ (upd ls ja (ls ja) j).all := fun j hj => ((fair').ok j hj).all_nonneg
            have pos2 : ∀ j, j < i → 0 ≤ (upd ls ja (ls ja) j).d := fun j hj => ((fair').ok j hj).d0
            have f1 := (fair').sum
            have f2 := (fair').down
            obtain ⟨f3, f4⟩ := (fair').bounds
            refine n_loop2 rfl fun _ _ => ?_
            refine n_loop (σ := Nat) (fun t => [(0, .int .i64 L), (1, .int .i64 (i : Int)), (3, .raw (.slice (some ad) n cap)), (10, .raw (.slice (some ⟨g, 0, none⟩) i ca)), (15, .int .i64 (v)), (16, .int .i64 (q : Nat)), (25, .int .i64 (sumTo (fun k => (upd ls ja (ls ja) k).all) t)), (26, .int .i64 (sumTo (fun k => (upd ls ja (ls ja) k).d) t)), (27, .int .i64 (t : Nat))]) (fun _ => _) (fun t => t ≤ i) (fun t => i - t) 0 mixed (by simp) (fun _ _ => rfl) rfl (by (repeat (first | exact trivial | refine ⟨⟨rfl, rfl⟩, ?_⟩))) (fun s _ => ⟨by (repeat (first | exact trivial | refine ⟨⟨_, rfl⟩, ?_⟩)), by (repeat (first | exact trivial | refine ⟨⟨_, rfl⟩, ?_⟩))⟩) fun t ht => ?_
            (refine st rfl ?_; conv => arg 3; whnf)
            by_cases htl : t < i
            · have et : IntKind.i64.wrap ((t : Int) + 1) = ((t + 1 : Nat) : Int) := by rw [w64 (by omega) (by omega)]; simp
              have g1 := sumTo_mono pos1 (show t + 1 ≤ i by omega)
              have g2 := sumTo_mono pos2 (show t + 1 ≤ i by omega)
              have g3 := sumTo_nonneg (f := fun k => (upd ls ja (ls ja) k).all) (n := t) (fun j hj => pos1 j (by omega))
              have g4 := sumTo_nonneg (f := fun k => (upd ls ja (ls ja) k).d) (n := t) (fun j hj => pos2 j (by omega))
              have p1 := pos1 t htl
              have p2 := pos2 t htl
              rw [f1] at g1
              rw [f2] at g2
              have e1 : IntKind.i64.wrap (sumTo (fun k => (upd ls ja (ls ja) k).all) t + (upd ls ja (ls ja) t).all) = sumTo (fun k => (upd ls ja (ls ja) k).all) (t + 1) := by simp only [sumTo] at g1 ⊢; exact w64 (by omega) (by omega)
              have e2 : IntKind.i64.wrap (sumTo (fun k => (upd ls ja (ls ja) k).d) t + (upd ls ja (ls ja) t).d) = sumTo (fun k => (upd ls ja (ls ja) k).d) (t + 1) := by simp only [sumTo] at g2 ⊢; exact w64 (by omega) (by omega)
              obtain ⟨bt, hbt⟩ := hat t htl
              (repeat (first | (refine n_must rfl ?_; (refine st rfl ?_; conv => arg 3; whnf)) | (refine n_chk (drawF_ok (by decide +kernel)) ?_; (refine st rfl ?_; conv => arg 3; whnf)) | (refine n_same rfl ?_; (refine st rfl ?_; conv => arg 3; whnf)) | (refine n_must ?_ ?_; (focus (first | (simp; done) | (simp; omega))); (refine st rfl ?_; conv => arg 3; whnf)) | (refine n_brT ?_ ?_; (focus (first | (simp; done) | (simp; omega))); (refine st rfl ?_; conv => arg 3; whnf)) | (refine n_brF ?_ ?_; (focus (first | (simp; done) | (simp; omega))); (refine st rfl ?_; conv => arg 3; whnf))))
              refine n_ldI (.raw (.pointer (some ⟨bt, 0, none⟩))) rfl rfl (fun ids' w1 hp1 hI1 => ld_ptr (hI1.res 0 rfl rfl) hbt (by simp)) ?_
              (refine st rfl ?_; conv => arg 3; whnf)
              (repeat (first | (refine n_must rfl ?_; (refine st rfl ?_; conv => arg 3; whnf)) | (refine n_chk (drawF_ok (by decide +kernel)) ?_; (refine st rfl ?_; conv => arg 3; whnf)) | (refine n_same rfl ?_; (refine st rfl ?_; conv => arg 3; whnf)) | (refine n_must ?_ ?_; (focus (first | (simp; done) | (simp; omega))); (refine st rfl ?_; conv => arg 3; whnf)) | (refine n_brT ?_ ?_; (focus (first | (simp; done) | (simp; omega))); (refine st rfl ?_; conv => arg 3; whnf)) | (refine n_brF ?_ ?_; (focus (first | (simp; done) | (simp; omega))); (refine st rfl ?_; conv => arg 3; whnf))))
              refine n_sameP (.int .i64 ((upd ls ja (ls ja) t).all)) rfl rfl rfl (fun _ w1 hp1 hI1 => sum_ok _ ((fair').ok t htl) (hI1.res 1 rfl rfl t bt hbt)) ?_; (refine st rfl ?_; conv => arg 3; whnf)
              (repeat (first | (refine n_must rfl ?_; (refine st rfl ?_; conv => arg 3; whnf)) | (refine n_chk (drawF_ok (by decide +kernel)) ?_; (refine st rfl ?_; conv => arg 3; whnf)) | (refine n_same rfl ?_; (refine st rfl ?_; conv => arg 3; whnf)) | (refine n_must ?_ ?_; (focus (first | (simp; done) | (simp; omega))); (refine st rfl ?_; conv => arg 3; whnf)) | (refine n_brT ?_ ?_; (focus (first | (simp; done) | (simp; omega))); (refine st rfl ?_; conv => arg 3; whnf)) | (refine n_brF ?_ ?_; (focus (first | (simp; done) | (simp; omega))); (refine st rfl ?_; conv => arg 3; whnf))))
              refine n_ldI (.raw (.pointer (some ⟨bt, 0, none⟩))) rfl rfl (fun ids' w1 hp1 hI1 => ld_ptr (hI1.res 0 rfl rfl) hbt (by simp)) ?_
              (refine st rfl ?_; conv => arg 3; whnf)
              (repeat (first | (refine n_must rfl ?_; (refine st rfl ?_; conv => arg 3; whnf)) | (refine n_chk (drawF_ok (by decide +kernel)) ?_; (refine st rfl ?_; conv => arg 3; whnf)) | (refine n_same rfl ?_; (refine st rfl ?_; conv => arg 3; whnf)) | (refine n_must ?_ ?_; (focus (first | (simp; done) | (simp; omega))); (refine st rfl ?_; conv => arg 3; whnf)) | (refine n_brT ?_ ?_; (focus (first | (simp; done) | (simp; omega))); (refine st rfl ?_; conv => arg 3; whnf)) | (refine n_brF ?_ ?_; (focus (first | (simp; done) | (simp; omega))); (refine st rfl ?_; conv => arg 3; whnf))))
              refine n_sameP (.agg [.int .i64 ((upd ls ja (ls ja) t).d), .int .i64 ((upd ls ja (ls ja) t).u)]) rfl rfl rfl (fun _ w1 hp1 hI1 => Rights_ok _ (hI1.res 1 rfl rfl t bt hbt)) ?_; (refine st rfl ?_; conv => arg 3; whnf)
              (repeat (first | (refine n_must rfl ?_; (refine st rfl ?_; conv => arg 3; whnf)) | (refine n_chk (drawF_ok (by decide +kernel)) ?_; (refine st rfl ?_; conv => arg 3; whnf)) | (refine n_same rfl ?_; (refine st rfl ?_; conv => arg 3; whnf)) | (refine n_must ?_ ?_; (focus (first | (simp; done) | (simp; omega))); (refine st rfl ?_; conv => arg 3; whnf)) | (refine n_brT ?_ ?_; (focus (first | (simp; done) | (simp; omega))); (refine st rfl ?_; conv => arg 3; whnf)) | (refine n_brF ?_ ?_; (focus (first | (simp; done) | (simp; omega))); (refine st rfl ?_; conv => arg 3; whnf))))
              exact n_again ⟨t + 1, by omega, by omega, (by (repeat (first | exact trivial | refine ⟨⟨rfl, rfl⟩, ?_⟩ | refine ⟨⟨rfl, congrArg (SV.int .i64) et⟩, ?_⟩ | refine ⟨⟨rfl, congrArg (SV.int .i64) e1⟩, ?_⟩ | refine ⟨⟨rfl, congrArg (SV.int .i64) e2⟩, ?_⟩))), ⟨[], rfl⟩⟩
            · obtain rfl : t = i := by omega
              (repeat (first | (refine n_must rfl ?_; (refine st rfl ?_; conv => arg 3; whnf)) | (refine n_chk (drawF_ok (by decide +kernel)) ?_; (refine st rfl ?_; conv => arg 3; whnf)) | (refine n_same rfl ?_; (refine st rfl ?_; conv => arg 3; whnf)) | (refine n_must ?_ ?_; (focus (first | (simp; done) | (simp; omega))); (refine st rfl ?_; conv => arg 3; whnf)) | (refine n_brT ?_ ?_; (focus (first | (simp; done) | (simp; omega))); (refine st rfl ?_; conv => arg 3; whnf)) | (refine n_brF ?_ ?_; (focus (first | (simp; done) | (simp; omega))); (refine st rfl ?_; conv => arg 3; whnf))))
              refine n_exit rfl ?_
              (refine st rfl ?_; conv => arg 3; whnf)
              (repeat (first | (refine n_must rfl ?_; (refine st rfl ?_; conv => arg 3; whnf)) | (refine n_chk (drawF_ok (by decide +kernel)) ?_; (refine st rfl ?_; conv => arg 3; whnf)) | (refine n_same rfl ?_; (refine st rfl ?_; conv => arg 3; whnf)) | (refine n_must ?_ ?_; (focus (first | (simp [f1, f2]; done) | (simp [f1, f2]; omega) | (simp only [f1, f2]; simp; done))); (refine st rfl ?_; conv => arg 3; whnf)) | (refine n_brT ?_ ?_; (focus (first | (simp [f1, f2]; done) | (simp [f1, f2]; omega) | (simp only [f1, f2]; simp; done))); (refine st rfl ?_; conv => arg 3; whnf)) | (refine n_brF ?_ ?_; (focus (first | (simp [f1, f2]; done) | (simp [f1, f2]; omega) | (simp only [f1, f2]; simp; done))); (refine st rfl ?_; conv => arg 3; whnf))))
              exact n_again ⟨(q + 1, upd ls ja (ls ja), v), ⟨by dsimp only; omega, fair'⟩, by dsimp only; omega, (by (repeat (first | exact trivial | refine ⟨⟨rfl, rfl⟩, ?_⟩ | refine ⟨⟨rfl, congrArg (SV.int .i64) eq⟩, ?_⟩))), ⟨_, rfl⟩⟩
        · have k2_ : K = 2 := by omega
          generalize hT : withinF a 1 5 = T
          have bT : 1 ≤ T ∧ T ≤ 5 := hT ▸ within_le (by omega)
          obtain ⟨s1, r1, he⟩ : ∃ s1 r1, (ls ja).turn (fromTo T).1 (fromTo T).2 b = (s1, r1) := ⟨_, _, rfl⟩
          have hturn : ∀ (w1 : World), Sents b0 w1 a0 a1 a2 → b0 ≤ w1.heap.size → Blk w1 ba (ls ja).cells 62 → Calls Tryd.prog 24 #[.pointer (some ⟨ba, 0, none⟩), .int .i64 T, .int .i64 b] w1 fun e w' => e = .returned (.int .i64 r1.num) ∧ Frm [ba] w1 w' ∧ Blk w' ba s1.cells 62 := by
            intro w1 hs1 hB1 hblk
            have h := turned_ok hs1 ba0 hB1 (ls ja) (fair.ok ja ja_lt) hblk T b
            rw [he] at h
            exact h
          (repeat (first | (refine n_must rfl ?_; (refine st rfl ?_; conv => arg 3; whnf)) | (refine n_chk (drawF_ok (by decide +kernel)) ?_; (refine st rfl ?_; conv => arg 3; whnf)) | (refine n_same rfl ?_; (refine st rfl ?_; conv => arg 3; whnf)) | (refine n_must ?_ ?_; (focus (first | (simp; done) | (simp; omega))); (refine st rfl ?_; conv => arg 3; whnf)) | (refine n_brT ?_ ?_; (focus (first | (simp; done) | (simp; omega))); (refine st rfl ?_; conv => arg 3; whnf)) | (refine n_brF ?_ ?_; (focus (first | (simp; done) | (simp; omega))); (refine st rfl ?_; conv => arg 3; whnf))))
          refine n_sameP (.int .i64 T) rfl rfl rfl (fun _ w1 hp1 hI1 => hT ▸ within_ok a 1 5 fa (by omega) (by omega) (by omega) w1) ?_; (refine st rfl ?_; conv => arg 3; whnf)
          (repeat (first | (refine n_must rfl ?_; (refine st rfl ?_; conv => arg 3; whnf)) | (refine n_chk (drawF_ok (by decide +kernel)) ?_; (refine st rfl ?_; conv => arg 3; whnf)) | (refine n_same rfl ?_; (refine st rfl ?_; conv => arg 3; whnf)) | (refine n_must ?_ ?_; (focus (first | (simp; done) | (simp; omega))); (refine st rfl ?_; conv => arg 3; whnf)) | (refine n_brT ?_ ?_; (focus (first | (simp; done) | (simp; omega))); (refine st rfl ?_; conv => arg 3; whnf)) | (refine n_brF ?_ ?_; (focus (first | (simp; done) | (simp; omega))); (refine st rfl ?_; conv => arg 3; whnf))))
          cases r1 with
          | ok =>
            obtain ⟨t1, t2, t3, t4, t5⟩ := turn_fine (fair.ok ja ja_lt) bT he
            have ok1 : s1.ok := by have h := (fair.ok ja ja_lt).turn T b; rw [he] at h; exact h
            have fair0 := fair.set ja_lt ok1 (t2.trans (fair.lim ja ja_lt)) t1
            obtain ⟨g0, g00⟩ := fair.bounds
            refine n_led 1 ja ba (s1) (.int .i64 0) rfl rfl rfl rfl hnd hba (fun ids' w1 hp1 hI1 hblk => hturn w1 (hs.frm hI1.frm hS hB) (Nat.le_trans hB hI1.frm.size) hblk) ?_
            (refine st rfl ?_; conv => arg 3; whnf)
            by_cases hT1 : T = 1 ∨ T = 3
            · have ev : IntKind.i64.wrap (v - b) = v - b := w64 (by omega) (by omega)
              have fair' : Fair (upd ls ja s1) i L (v - b) := by
                have e : v - (ls ja).d + s1.d = v - b := by rw [t5, if_pos hT1]; omega
                rw [e] at fair0; exact fair0
              (repeat' (first | (refine n_must rfl ?_; (refine st rfl ?_; conv => arg 3; whnf)) | (refine n_chk (drawF_ok (by decide +kernel)) ?_; (refine st rfl ?_; conv => arg 3; whnf)) | (refine n_same rfl ?_; (refine st rfl ?_; conv => arg 3; whnf)) | (refine n_must ?_ ?_; (focus (first | (simp; done) | (simp; omega))); (refine st rfl ?_; conv => arg 3; whnf)) | (refine n_brT ?_ ?_; (focus (first | (simp; done) | (simp; omega))); (refine st rfl ?_; conv => arg 3; whnf)) | (refine n_brF ?_ ?_; (focus (first | (simp; done) | (simp; omega))); (refine st rfl ?_; conv => arg 3; whnf)) | (refine n_br (fun hbr => ?_) (fun hbr => ?_) <;> simp at hbr <;> (refine st rfl ?_; conv => arg 3; whnf))))
              · (repeat (first | (refine n_must rfl ?_; (refine st rfl ?_; conv => arg 3; whnf)) | (refine n_chk (drawF_ok (by decide +kernel)) ?_; (refine st rfl ?_; conv => arg 3; whnf)) | (refine n_same rfl ?_; (refine st rfl ?_; conv => arg 3; whnf)) | (refine n_must ?_ ?_; (focus (first | (simp; done) | (simp; omega))); (refine st rfl ?_; conv => arg 3; whnf)) | (refine n_brT ?_ ?_; (focus (first | (simp; done) | (simp; omega))); (refine st rfl ?_; conv => arg 3; whnf)) | (refine n_brF ?_ ?_; (focus (first | (simp; done) | (simp; omega))); (refine st rfl ?_; conv => arg 3; whnf))))
                have pos1 : ∀ j, j < i → 0 ≤ (upd ls ja s1 j).all := fun j hj => ((fair').ok j hj).all_nonneg
                have pos2 : ∀ j, j < i → 0 ≤ (upd ls ja s1 j).d := fun j hj => ((fair').ok j hj).d0
                have f1 := (fair').sum
                have f2 := (fair').down
                obtain ⟨f3, f4⟩ := (fair').bounds
                refine n_loop1 rfl fun _ => ?_
                refine n_loop (σ := Nat) (fun t => [(0, .int .i64 L), (1, .int .i64 (i : Int)), (3, .raw (.slice (some ad) n cap)), (10, .raw (.slice (some ⟨g, 0, none⟩) i ca)), (15, .int .i64 (v - b)), (16, .int .i64 (q : Nat)), (25, .int .i64 (sumTo (fun k => (upd ls ja s1 k).all) t)), (26, .int .i64 (sumTo (fun k => (upd ls ja s1 k).d) t)), (27, .int .i64 (t : Nat))]) (fun _ => _) (fun t => t ≤ i) (fun t => i - t) 0 mixed (by simp) (fun _ _ => rfl) rfl (by (repeat (first | exact trivial | refine ⟨⟨rfl, rfl⟩, ?_⟩ | refine ⟨⟨rfl, congrArg (SV.int .i64) ev⟩, ?_⟩))) (fun s _ => ⟨by (repeat (first | exact trivial | refine ⟨⟨_, rfl⟩, ?_⟩)), by (repeat (first | exact trivial | refine ⟨⟨_, rfl⟩, ?_⟩))⟩) fun t ht => ?_
                (refine st rfl ?_; conv => arg 3; whnf)
                by_cases htl : t < i
                · have et : IntKind.i64.wrap ((t : Int) + 1) = ((t + 1 : Nat) : Int) := by rw [w64 (by omega) (by omega)]; simp
                  have g1 := sumTo_mono pos1 (show t + 1 ≤ i by omega)
                  have g2 := sumTo_mono pos2 (show t + 1 ≤ i by omega)
                  have g3 := sumTo_nonneg (f := fun k => (upd ls ja s1 k).all) (n := t) (fun j hj => pos1 j (by omega))
                  have g4 := sumTo_nonneg (f := fun k => (upd ls ja s1 k).d) (n := t) (fun j hj => pos2 j (by omega))
                  have p1 := pos1 t htl
                  have p2 := pos2 t htl
                  rw [f1] at g1
                  rw [f2] at g2
                  have e1 : IntKind.i64.wrap (sumTo (fun k => (upd ls ja s1 k).all) t + (upd ls ja s1 t).all) = sumTo (fun k => (upd ls ja s1 k).all) (t + 1) := by simp only [sumTo] at g1 ⊢; exact w64 (by omega) (by omega)
                  have e2 : IntKind.i64.wrap (sumTo (fun k => (upd ls ja s1 k).d) t + (upd ls ja s1 t).d) = sumTo (fun k => (upd ls ja s1 k).d) (t + 1) := by simp only [sumTo] at g2 ⊢; exact w64 (by omega) (by omega)
                  obtain ⟨bt, hbt⟩ := hat t htl
                  (repeat (first | (refine n_must rfl ?_; (refine st rfl ?_; conv => arg 3; whnf)) | (refine n_chk (drawF_ok (by decide +kernel)) ?_; (refine st rfl ?_; conv => arg 3; whnf)) | (refine n_same rfl ?_; (refine st rfl ?_; conv => arg 3; whnf)) | (refine n_must ?_ ?_; (focus (first | (simp; done) | (simp; omega))); (refine st rfl ?_; conv => arg 3; whnf)) | (refine n_brT ?_ ?_; (focus (first | (simp; done) | (simp; omega))); (refine st rfl ?_; conv => arg 3; whnf)) | (refine n_brF ?_ ?_; (focus (first | (simp; done) | (simp; omega))); (refine st rfl ?_; conv => arg 3; whnf))))
                  refine n_ldI (.raw (.pointer (some ⟨bt, 0, none⟩))) rfl rfl (fun ids' w1 hp1 hI1 => ld_ptr (hI1.res 0 rfl rfl) hbt (by simp)) ?_
                  (refine st rfl ?_; conv => arg 3; whnf)
                  (repeat (first | (refine n_must rfl ?_; (refine st rfl ?_; conv => arg 3; whnf)) | (refine n_chk (drawF_ok (by decide +kernel)) ?_; (refine st rfl ?_; conv => arg 3; whnf)) | (refine n_same rfl ?_; (refine st rfl ?_; conv => arg 3; whnf)) | (refine n_must ?_ ?_; (focus (first | (simp; done) | (simp; omega))); (refine st rfl ?_; conv => arg 3; whnf)) | (refine n_brT ?_ ?_; (focus (first | (simp; done) | (simp; omega))); (refine st rfl ?_; conv => arg 3; whnf)) | (refine n_brF ?_ ?_; (focus (first | (simp; done) | (simp; omega))); (refine st rfl ?_; conv => arg 3; whnf))))
                  refine n_sameP (.int .i64 ((upd ls ja s1 t).all)) rfl rfl rfl (fun _ w1 hp1 hI1 => sum_ok _ ((fair').ok t htl) (hI1.res 1 rfl rfl t bt hbt)) ?_; (refine st rfl ?_; conv => arg 3; whnf)
                  (repeat (first | (refine n_must rfl ?_; (refine st rfl ?_; conv => arg 3; whnf)) | (refine n_chk (drawF_ok (by decide +kernel)) ?_; (refine st rfl ?_; conv => arg 3; whnf)) | (refine n_same rfl ?_; (refine st rfl ?_; conv => arg 3; whnf)) | (refine n_must ?_ ?_; (focus (first | (simp; done) | (simp; omega))); (refine st rfl ?_; conv => arg 3; whnf)) | (refine n_brT ?_ ?_; (focus (first | (simp; done) | (simp; omega))); (refine st rfl ?_; conv => arg 3; whnf)) | (refine n_brF ?_ ?_; (focus (first | (simp; done) | (simp; omega))); (refine st rfl ?_; conv => arg 3; whnf))))
                  refine n_ldI (.raw (.pointer (some ⟨bt, 0, none⟩))) rfl rfl (fun ids' w1 hp1 hI1 => ld_ptr (hI1.res 0 rfl rfl) hbt (by simp)) ?_
                  (refine st rfl ?_; conv => arg 3; whnf)
                  (repeat (first | (refine n_must rfl ?_; (refine st rfl ?_; conv => arg 3; whnf)) | (refine n_chk (drawF_ok (by decide +kernel)) ?_; (refine st rfl ?_; conv => arg 3; whnf)) | (refine n_same rfl ?_; (refine st rfl ?_; conv => arg 3; whnf)) | (refine n_must ?_ ?_; (focus (first | (simp; done) | (simp; omega))); (refine st rfl ?_; conv => arg 3; whnf)) | (refine n_brT ?_ ?_; (focus (first | (simp; done) | (simp; omega))); (refine st rfl ?_; conv => arg 3; whnf)) | (refine n_brF ?_ ?_; (focus (first | (simp; done) | (simp; omega))); (refine st rfl ?_; conv => arg 3; whnf))))
                  refine n_sameP (.agg [.int .i64 ((upd ls ja s1 t).d), .int .i64 ((upd ls ja s1 t).u)]) rfl rfl rfl (fun _ w1 hp1 hI1 => Rights_ok _ (hI1.res 1 rfl rfl t bt hbt)) ?_; (refine st rfl ?_; conv => arg 3; whnf)
                  (repeat (first | (refine n_must rfl ?_; (refine st rfl ?_; conv => arg 3; whnf)) | (refine n_chk (drawF_ok (by decide +kernel)) ?_; (refine st rfl ?_; conv => arg 3; whnf)) | (refine n_same rfl ?_; (refine st rfl ?_; conv => arg 3; whnf)) | (refine n_must ?_ ?_; (focus (first | (simp; done) | (simp; omega))); (refine st rfl ?_; conv => arg 3; whnf)) | (refine n_brT ?_ ?_; (focus (first | (simp; done) | (simp; omega))); (refine st rfl ?_; conv => arg 3; whnf)) | (refine n_brF ?_ ?_; (focus (first | (simp; done) | (simp; omega))); (refine st rfl ?_; conv => arg 3; whnf))))
                  exact n_again ⟨t + 1, by omega, by omega, (by (repeat (first | exact trivial | refine ⟨⟨rfl, rfl⟩, ?_⟩ | refine ⟨⟨rfl, congrArg (SV.int .i64) et⟩, ?_⟩ | refine ⟨⟨rfl, congrArg (SV.int .i64) e1⟩, ?_⟩ | refine ⟨⟨rfl, congrArg (SV.int .i64) e2⟩, ?_⟩))), ⟨[], rfl⟩⟩
                · obtain rfl : t = i := by omega
                  (repeat (first | (refine n_must rfl ?_; (refine st rfl ?_; conv => arg 3; whnf)) | (refine n_chk (drawF_ok (by decide +kernel)) ?_; (refine st rfl ?_; conv => arg 3; whnf)) | (refine n_same rfl ?_; (refine st rfl ?_; conv => arg 3; whnf)) | (refine n_must ?_ ?_; (focus (first | (simp; done) | (simp; omega))); (refine st rfl ?_; conv => arg 3; whnf)) | (refine n_brT ?_ ?_; (focus (first | (simp; done) | (simp; omega))); (refine st rfl ?_; conv => arg 3; whnf)) | (refine n_brF ?_ ?_; (focus (first | (simp; done) | (simp; omega))); (refine st rfl ?_; conv => arg 3; whnf))))
                  refine n_exit rfl ?_
                  (refine st rfl ?_; conv => arg 3; whnf)
                  (repeat (first | (refine n_must rfl ?_; (refine st rfl ?_; conv => arg 3; whnf)) | (refine n_chk (drawF_ok (by decide +kernel)) ?_; (refine st rfl ?_; conv => arg 3; whnf)) | (refine n_same rfl ?_; (refine st rfl ?_; conv => arg 3; whnf)) | (refine n_must ?_ ?_; (focus (first | (simp [f1, f2]; done) | (simp [f1, f2]; omega) | (simp only [f1, f2]; simp; done))); (refine st rfl ?_; conv => arg 3; whnf)) | (refine n_brT ?_ ?_; (focus (first | (simp [f1, f2]; done) | (simp [f1, f2]; omega) | (simp only [f1, f2]; simp; done))); (refine st rfl ?_; conv => arg 3; whnf)) | (refine n_brF ?_ ?_; (focus (first | (simp [f1, f2]; done) | (simp [f1, f2]; omega) | (simp only [f1, f2]; simp; done))); (refine st rfl ?_; conv => arg 3; whnf))))
                  exact n_again ⟨(q + 1, upd ls ja s1, v - b), ⟨by dsimp only; omega, fair'⟩, by dsimp only; omega, (by (repeat (first | exact trivial | refine ⟨⟨rfl, rfl⟩, ?_⟩ | refine ⟨⟨rfl, congrArg (SV.int .i64) eq⟩, ?_⟩))), ⟨_, rfl⟩⟩
              · (repeat (first | (refine n_must rfl ?_; (refine st rfl ?_; conv => arg 3; whnf)) | (refine n_chk (drawF_ok (by decide +kernel)) ?_; (refine st rfl ?_; conv => arg 3; whnf)) | (refine n_same rfl ?_; (refine st rfl ?_; conv => arg 3; whnf)) | (refine n_must ?_ ?_; (focus (first | (simp; done) | (simp; omega))); (refine st rfl ?_; conv => arg 3; whnf)) | (refine n_brT ?_ ?_; (focus (first | (simp; done) | (simp; omega))); (refine st rfl ?_; conv => arg 3; whnf)) | (refine n_brF ?_ ?_; (focus (first | (simp; done) | (simp; omega))); (refine st rfl ?_; conv => arg 3; whnf))))
                have pos1 : ∀ j, j < i → 0 ≤ (upd ls ja s1 j).all := fun j hj => ((fair').ok j hj).all_nonneg
                have pos2 : ∀ j, j < i → 0 ≤ (upd ls ja s1 j).d := fun j hj => ((fair').ok j hj).d0
                have f1 := (fair').sum
                have f2 := (fair').down
                obtain ⟨f3, f4⟩ := (fair').bounds
                refine n_loop1 rfl fun _ => ?_
                refine n_loop (σ := Nat) (fun t => [(0, .int .i64 L), (1, .int .i64 (i : Int)), (3, .raw (.slice (some ad) n cap)), (10, .raw (.slice (some ⟨g, 0, none⟩) i ca)), (15, .int .i64 (v - b)), (16, .int .i64 (q : Nat)), (25, .int .i64 (sumTo (fun k => (upd ls ja s1 k).all) t)), (26, .int .i64 (sumTo (fun k => (upd ls ja s1 k).d) t)), (27, .int .i64 (t : Nat))]) (fun _ => _) (fun t => t ≤ i) (fun t => i - t) 0 mixed (by simp) (fun _ _ => rfl) rfl (by (repeat (first | exact trivial | refine ⟨⟨rfl, rfl⟩, ?_⟩ | refine ⟨⟨rfl, congrArg (SV.int .i64) ev⟩, ?_⟩))) (fun s _ => ⟨by (repeat (first | exact trivial | refine ⟨⟨_, rfl⟩, ?_⟩)), by (repeat (first | exact trivial | refine ⟨⟨_, rfl⟩, ?_⟩))⟩) fun t ht => ?_
                (refine st rfl ?_; conv => arg 3; whnf)
                by_cases htl : t < i
                · have et : IntKind.i64.wrap ((t : Int) + 1) = ((t + 1 : Nat) : Int) := by rw [w64 (by omega) (by omega)]; simp
                  have g1 := sumTo_mono pos1 (show t + 1 ≤ i by omega)
                  have g2 := sumTo_mono pos2 (show t + 1 ≤ i by omega)
                  have g3 := sumTo_nonneg (f := fun k => (upd ls ja s1 k).all) (n := t) (fun j hj => pos1 j (by omega))
                  have g4 := sumTo_nonneg (f := fun k => (upd ls ja s1 k).d) (n := t) (fun j hj => pos2 j (by omega))
                  have p1 := pos1 t htl
                  have p2 := pos2 t htl
                  rw [f1] at g1
                  rw [f2] at g2
                  have e1 : IntKind.i64.wrap (sumTo (fun k => (upd ls ja s1 k).all) t + (upd ls ja s1 t).all) = sumTo (fun k => (upd ls ja s1 k).all) (t + 1) := by simp only [sumTo] at g1 ⊢; exact w64 (by omega) (by omega)
                  have e2 : IntKind.i64.wrap (sumTo (fun k => (upd ls ja s1 k).d) t + (upd ls ja s1 t).d) = sumTo (fun k => (upd ls ja s1 k).d) (t + 1) := by simp only [sumTo] at g2 ⊢; exact w64 (by omega) (by omega)
                  obtain ⟨bt, hbt⟩ := hat t htl
                  (repeat (first | (refine n_must rfl ?_; (refine st rfl ?_; conv => arg 3; whnf)) | (refine n_chk (drawF_ok (by decide +kernel)) ?_; (refine st rfl ?_; conv => arg 3; whnf)) | (refine n_same rfl ?_; (refine st rfl ?_; conv => arg 3; whnf)) | (refine n_must ?_ ?_; (focus (first | (simp; done) | (simp; omega))); (refine st rfl ?_; conv => arg 3; whnf)) | (refine n_brT ?_ ?_; (focus (first | (simp; done) | (simp; omega))); (refine st rfl ?_; conv => arg 3; whnf)) | (refine n_brF ?_ ?_; (focus (first | (simp; done) | (simp; omega))); (refine st rfl ?_; conv => arg 3; whnf))))
                  refine n_ldI (.raw (.pointer (some ⟨bt, 0, none⟩))) rfl rfl (fun ids' w1 hp1 hI1 => ld_ptr (hI1.res 0 rfl rfl) hbt (by simp)) ?_
                  (refine st rfl ?_; conv => arg 3; whnf)
                  (repeat (first | (refine n_must rfl ?_; (refine st rfl ?_; conv => arg 3; whnf)) | (refine n_chk (drawF_ok (by decide +kernel)) ?_; (refine st rfl ?_; conv => arg 3; whnf)) | (refine n_same rfl ?_; (refine st rfl ?_; conv => arg 3; whnf)) | (refine n_must ?_ ?_; (focus (first | (simp; done) | (simp; omega))); (refine st rfl ?_; conv => arg 3; whnf)) | (refine n_brT ?_ ?_; (focus (first | (simp; done) | (simp; omega))); (refine st rfl ?_; conv => arg 3; whnf)) | (refine n_brF ?_ ?_; (focus (first | (simp; done) | (simp; omega))); (refine st rfl ?_; conv => arg 3; whnf))))
                  refine n_sameP (.int .i64 ((upd ls ja s1 t).all)) rfl rfl rfl (fun _ w1 hp1 hI1 => sum_ok _ ((fair').ok t htl) (hI1.res 1 rfl rfl t bt hbt)) ?_; (refine st rfl ?_; conv => arg 3; whnf)
                  (repeat (first | (refine n_must rfl ?_; (refine st rfl ?_; conv => arg 3; whnf)) | (refine n_chk (drawF_ok (by decide +kernel)) ?_; (refine st rfl ?_; conv => arg 3; whnf)) | (refine n_same rfl ?_; (refine st rfl ?_; conv => arg 3; whnf)) | (refine n_must ?_ ?_; (focus (first | (simp; done) | (simp; omega))); (refine st rfl ?_; conv => arg 3; whnf)) | (refine n_brT ?_ ?_; (focus (first | (simp; done) | (simp; omega))); (refine st rfl ?_; conv => arg 3; whnf)) | (refine n_brF ?_ ?_; (focus (first | (simp; done) | (simp; omega))); (refine st rfl ?_; conv => arg 3; whnf))))
                  refine n_ldI (.raw (.pointer (some ⟨bt, 0, none⟩))) rfl rfl (fun ids' w1 hp1 hI1 => ld_ptr (hI1.res 0 rfl rfl) hbt (by simp)) ?_
                  (refine st rfl ?_; conv => arg 3; whnf)
                  (repeat (first | (refine n_must rfl ?_; (refine st rfl ?_; conv => arg 3; whnf)) | (refine n_chk (drawF_ok (by decide +kernel)) ?_; (refine st rfl ?_; conv => arg 3; whnf)) | (refine n_same rfl ?_; (refine st rfl ?_; conv => arg 3; whnf)) | (refine n_must ?_ ?_; (focus (first | (simp; done) | (simp; omega))); (refine st rfl ?_; conv => arg 3; whnf)) | (refine n_brT ?_ ?_; (focus (first | (simp; done) | (simp; omega))); (refine st rfl ?_; conv => arg 3; whnf)) | (refine n_brF ?_ ?_; (focus (first | (simp; done) | (simp; omega))); (refine st rfl ?_; conv => arg 3; whnf))))
                  refine n_sameP (.agg [.int .i64 ((upd ls ja s1 t).d), .int .i64 ((upd ls ja s1 t).u)]) rfl rfl rfl (fun _ w1 hp1 hI1 => Rights_ok _ (hI1.res 1 rfl rfl t bt hbt)) ?_; (refine st rfl ?_; conv => arg 3; whnf)
                  (repeat (first | (refine n_must rfl ?_; (refine st rfl ?_; conv => arg 3; whnf)) | (refine n_chk (drawF_ok (by decide +kernel)) ?_; (refine st rfl ?_; conv => arg 3; whnf)) | (refine n_same rfl ?_; (refine st rfl ?_; conv => arg 3; whnf)) | (refine n_must ?_ ?_; (focus (first | (simp; done) | (simp; omega))); (refine st rfl ?_; conv => arg 3; whnf)) | (refine n_brT ?_ ?_; (focus (first | (simp; done) | (simp; omega))); (refine st rfl ?_; conv => arg 3; whnf)) | (refine n_brF ?_ ?_; (focus (first | (simp; done) | (simp; omega))); (refine st rfl ?_; conv => arg 3; whnf))))
                  exact n_again ⟨t + 1, by omega, by omega, (by (repeat (first | exact trivial | refine ⟨⟨rfl, rfl⟩, ?_⟩ | refine ⟨⟨rfl, congrArg (SV.int .i64) et⟩, ?_⟩ | refine ⟨⟨rfl, congrArg (SV.int .i64) e1⟩, ?_⟩ | refine ⟨⟨rfl, congrArg (SV.int .i64) e2⟩, ?_⟩))), ⟨[], rfl⟩⟩
                · obtain rfl : t = i := by omega
                  (repeat (first | (refine n_must rfl ?_; (refine st rfl ?_; conv => arg 3; whnf)) | (refine n_chk (drawF_ok (by decide +kernel)) ?_; (refine st rfl ?_; conv => arg 3; whnf)) | (refine n_same rfl ?_; (refine st rfl ?_; conv => arg 3; whnf)) | (refine n_must ?_ ?_; (focus (first | (simp; done) | (simp; omega))); (refine st rfl ?_; conv => arg 3; whnf)) | (refine n_brT ?_ ?_; (focus (first | (simp; done) | (simp; omega))); (refine st rfl ?_; conv => arg 3; whnf)) | (refine n_brF ?_ ?_; (focus (first | (simp; done) | (simp; omega))); (refine st rfl ?_; conv => arg 3; whnf))))
                  refine n_exit rfl ?_
                  (refine st rfl ?_; conv => arg 3; whnf)
                  (repeat (first | (refine n_must rfl ?_; (refine st rfl ?_; conv => arg 3; whnf)) | (refine n_chk (drawF_ok (by decide +kernel)) ?_; (refine st rfl ?_; conv => arg 3; whnf)) | (refine n_same rfl ?_; (refine st rfl ?_; conv => arg 3; whnf)) | (refine n_must ?_ ?_; (focus (first | (simp [f1, f2]; done) | (simp [f1, f2]; omega) | (simp only [f1, f2]; simp; done))); (refine st rfl ?_; conv => arg 3; whnf)) | (refine n_brT ?_ ?_; (focus (first | (simp [f1, f2]; done) | (simp [f1, f2]; omega) | (simp only [f1, f2]; simp; done))); (refine st rfl ?_; conv => arg 3; whnf)) | (refine n_brF ?_ ?_; (focus (first | (simp [f1, f2]; done) | (simp [f1, f2]; omega) | (simp only [f1, f2]; simp; done))); (refine st rfl ?_; conv => arg 3; whnf))))
                  exact n_again ⟨(q + 1, upd ls ja s1, v - b), ⟨by dsimp only; omega, fair'⟩, by dsimp only; omega, (by (repeat (first | exact trivial | refine ⟨⟨rfl, rfl⟩, ?_⟩ | refine ⟨⟨rfl, congrArg (SV.int .i64) eq⟩, ?_⟩))), ⟨_, rfl⟩⟩
            · by_cases hT2 : T = 2 ∨ T = 4
              · have ev : IntKind.i64.wrap (v + b) = v + b := w64 (by omega) (by omega)
                have fair' : Fair (upd ls ja s1) i L (v + b) := by
                  have e : v - (ls ja).d + s1.d = v + b := by rw [t5, if_neg hT1, if_pos hT2]; omega
                  rw [e] at fair0; exact fair0
                (repeat' (first | (refine n_must rfl ?_; (refine st rfl ?_; conv => arg 3; whnf)) | (refine n_chk (drawF_ok (by decide +kernel)) ?_; (refine st rfl ?_; conv => arg 3; whnf)) | (refine n_same rfl ?_; (refine st rfl ?_; conv => arg 3; whnf)) | (refine n_must ?_ ?_; (focus (first | (simp; done) | (simp; omega))); (refine st rfl ?_; conv => arg 3; whnf)) | (refine n_brT ?_ ?_; (focus (first | (simp; done) | (simp; omega))); (refine st rfl ?_; conv => arg 3; whnf)) | (refine n_brF ?_ ?_; (focus (first | (simp; done) | (simp; omega))); (refine st rfl ?_; conv => arg 3; whnf)) | (refine n_br (fun hbr => ?_) (fun hbr => ?_) <;> simp at hbr <;> (refine st rfl ?_; conv => arg 3; whnf))))
                · (repeat (first | (refine n_must rfl ?_; (refine st rfl ?_; conv => arg 3; whnf)) | (refine n_chk (drawF_ok (by decide +kernel)) ?_; (refine st rfl ?_; conv => arg 3; whnf)) | (refine n_same rfl ?_; (refine st rfl ?_; conv => arg 3; whnf)) | (refine n_must ?_ ?_; (focus (first | (simp; done) | (simp; omega))); (refine st rfl ?_; conv => arg 3; whnf)) | (refine n_brT ?_ ?_; (focus (first | (simp; done) | (simp; omega))); (refine st rfl ?_; conv => arg 3; whnf)) | (refine n_brF ?_ ?_; (focus (first | (simp; done) | (simp; omega))); (refine st rfl ?_; conv => arg 3; whnf))))
                  have pos1 : ∀ j, j < i → 0 ≤ (upd ls ja s1 j).all := fun j hj => ((fair').ok j hj).all_nonneg
                  have pos2 : ∀ j, j < i → 0 ≤ (upd ls ja s1 j).d := fun j hj => ((fair').ok j hj).d0
                  have f1 := (fair').sum
                  have f2 := (fair').down
                  obtain ⟨f3, f4⟩ := (fair').bounds
                  refine n_loop1 rfl fun _ => ?_
                  refine n_loop (σ := Nat) (fun t => [(0, .int .i64 L), (1, .int .i64 (i : Int)), (3, .raw (.slice (some ad) n cap)), (10, .raw (.slice (some ⟨g, 0, none⟩) i ca)), (15, .int .i64 (v + b)), (16, .int .i64 (q : Nat)), (25, .int .i64 (sumTo (fun k => (upd ls ja s1 k).all) t)), (26, .int .i64 (sumTo (fun k => (upd ls ja s1 k).d) t)), (27, .int .i64 (t : Nat))]) (fun _ => _) (fun t => t ≤ i) (fun t => i - t) 0 mixed (by simp) (fun _ _ => rfl) rfl (by (repeat (first | exact trivial | refine ⟨⟨rfl, rfl⟩, ?_⟩ | refine ⟨⟨rfl, congrArg (SV.int .i64) ev⟩, ?_⟩))) (fun s _ => ⟨by (repeat (first | exact trivial | refine ⟨⟨_, rfl⟩, ?_⟩)), by (repeat (first | exact trivial | refine ⟨⟨_, rfl⟩, ?_⟩))⟩) fun t ht => ?_
                  (refine st rfl ?_; conv => arg 3; whnf)
                  by_cases htl : t < i
                  · have et : IntKind.i64.wrap ((t : Int) + 1) = ((t + 1 : Nat) : Int) := by rw [w64 (by omega) (by omega)]; simp
                    have g1 := sumTo_mono pos1 (show t + 1 ≤ i by omega)
                    have g2 := sumTo_mono pos2 (show t + 1 ≤ i by omega)
                    have g3 := sumTo_nonneg (f := fun k => (upd ls ja s1 k).all) (n := t) (fun j hj => pos1 j (by omega))
                    have g4 := sumTo_nonneg (f := fun k => (upd ls ja s1 k).d) (n := t) (fun j hj => pos2 j (by omega))
                    have p1 := pos1 t htl
                    have p2 := pos2 t htl
                    rw [f1] at g1
                    rw [f2] at g2
                    have e1 : IntKind.i64.wrap (sumTo (fun k => (upd ls ja s1 k).all) t + (upd ls ja s1 t).all) = sumTo (fun k => (upd ls ja s1 k).all) (t + 1) := by simp only [sumTo] at g1 ⊢; exact w64 (by omega) (by omega)
                    have e2 : IntKind.i64.wrap (sumTo (fun k => (upd ls ja s1 k).d) t + (upd ls ja s1 t).d) = sumTo (fun k => (upd ls ja s1 k).d) (t + 1) := by simp only [sumTo] at g2 ⊢; exact w64 (by omega) (by omega)
                    obtain ⟨bt, hbt⟩ := hat t htl
                    (repeat (first | (refine n_must rfl ?_; (refine st rfl ?_; conv => arg 3; whnf)) | (refine n_chk (drawF_ok (by decide +kernel)) ?_; (refine st rfl ?_; conv => arg 3; whnf)) | (refine n_same rfl ?_; (refine st rfl ?_; conv => arg 3; whnf)) | (refine n_must ?_ ?_; (focus (first | (simp; done) | (simp; omega))); (refine st rfl ?_; conv => arg 3; whnf)) | (refine n_brT ?_ ?_; (focus (first | (simp; done) | (simp; omega))); (refine st rfl ?_; conv => arg 3; whnf)) | (refine n_brF ?_ ?_; (focus (first | (simp; done) | (simp; omega))); (refine st rfl ?_; conv => arg 3; whnf))))
                    refine n_ldI (.raw (.pointer (some ⟨bt, 0, none⟩))) rfl rfl (fun ids' w1 hp1 hI1 => ld_ptr (hI1.res 0 rfl rfl) hbt (by simp)) ?_
                    (refine st rfl ?_; conv => arg 3; whnf)
                    (repeat (first | (refine n_must rfl ?_; (refine st rfl ?_; conv => arg 3; whnf)) | (refine n_chk (drawF_ok (by decide +kernel)) ?_; (refine st rfl ?_; conv => arg 3; whnf)) | (refine n_same rfl ?_; (refine st rfl ?_; conv => arg 3; whnf)) | (refine n_must ?_ ?_; (focus (first | (simp; done) | (simp; omega))); (refine st rfl ?_; conv => arg 3; whnf)) | (refine n_brT ?_ ?_; (focus (first | (simp; done) | (simp; omega))); (refine st rfl ?_; conv => arg 3; whnf)) | (refine n_brF ?_ ?_; (focus (first | (simp; done) | (simp; omega))); (refine st rfl ?_; conv => arg 3; whnf))))
                    refine n_sameP (.int .i64 ((upd ls ja s1 t).all)) rfl rfl rfl (fun _ w1 hp1 hI1 => sum_ok _ ((fair').ok t htl) (hI1.res 1 rfl rfl t bt hbt)) ?_; (refine st rfl ?_; conv => arg 3; whnf)
                    (repeat (first | (refine n_must rfl ?_; (refine st rfl ?_; conv => arg 3; whnf)) | (refine n_chk (drawF_ok (by decide +kernel)) ?_; (refine st rfl ?_; conv => arg 3; whnf)) | (refine n_same rfl ?_; (refine st rfl ?_; conv => arg 3; whnf)) | (refine n_must ?_ ?_; (focus (first | (simp; done) | (simp; omega))); (refine st rfl ?_; conv => arg 3; whnf)) | (refine n_brT ?_ ?_; (focus (first | (simp; done) | (simp; omega))); (refine st rfl ?_; conv => arg 3; whnf)) | (refine n_brF ?_ ?_; (focus (first | (simp; done) | (simp; omega))); (refine st rfl ?_; conv => arg 3; whnf))))
                    refine n_ldI (.raw (.pointer (some ⟨bt, 0, none⟩))) rfl rfl (fun ids' w1 hp1 hI1 => ld_ptr (hI1.res 0 rfl rfl) hbt (by simp)) ?_
                    (refine st rfl ?_; conv => arg 3; whnf)
                    (repeat (first | (refine n_must rfl ?_; (refine st rfl ?_; conv => arg 3; whnf)) | (refine n_chk (drawF_ok (by decide +kernel)) ?_; (refine st rfl ?_; conv => arg 3; whnf)) | (refine n_same rfl ?_; (refine st rfl ?_; conv => arg 3; whnf)) | (refine n_must ?_ ?_; (focus (first | (simp; done) | (simp; omega))); (refine st rfl ?_; conv => arg 3; whnf)) | (refine n_brT ?_ ?_; (focus (first | (simp; done) | (simp; omega))); (refine st rfl ?_; conv => arg 3; whnf)) | (refine n_brF ?_ ?_; (focus (first | (simp; done) | (simp; omega))); (refine st rfl ?_; conv => arg 3; whnf))))
                    refine n_sameP (.agg [.int .i64 ((upd ls ja s1 t).d), .int .i64 ((upd ls ja s1 t).u)]) rfl rfl rfl (fun _ w1 hp1 hI1 => Rights_ok _ (hI1.res 1 rfl rfl t bt hbt)) ?_; (refine st rfl ?_; conv => arg 3; whnf)
                    (repeat (first | (refine n_must rfl ?_; (refine st rfl ?_; conv => arg 3; whnf)) | (refine n_chk (drawF_ok (by decide +kernel)) ?_; (refine st rfl ?_; conv => arg 3; whnf)) | (refine n_same rfl ?_; (refine st rfl ?_; conv => arg 3; whnf)) | (refine n_must ?_ ?_; (focus (first | (simp; done) | (simp; omega))); (refine st rfl ?_; conv => arg 3; whnf)) | (refine n_brT ?_ ?_; (focus (first | (simp; done) | (simp; omega))); (refine st rfl ?_; conv => arg 3; whnf)) | (refine n_brF ?_ ?_; (focus (first | (simp; done) | (simp; omega))); (refine st rfl ?_; conv => arg 3; whnf))))
                    exact n_again ⟨t + 1, by omega, by omega, (by (repeat (first | exact trivial | refine ⟨⟨rfl, rfl⟩, ?_⟩ | refine ⟨⟨rfl, congrArg (SV.int .i64) et⟩, ?_⟩ | refine ⟨⟨rfl, congrArg (SV.int .i64) e1⟩, ?_⟩ | refine ⟨⟨rfl, congrArg (SV.int .i64) e2⟩, ?_⟩))), ⟨[], rfl⟩⟩
                  · obtain rfl : t = i := by omega
                    (repeat (first | (refine n_must rfl ?_; (refine st rfl ?_; conv => arg 3; whnf)) | (refine n_chk (drawF_ok (by decide +kernel)) ?_; (refine st rfl ?_; conv => arg 3; whnf)) | (refine n_same rfl ?_; (refine st rfl ?_; conv => arg 3; whnf)) | (refine n_must ?_ ?_; (focus (first | (simp; done) | (simp; omega))); (refine st rfl ?_; conv => arg 3; whnf)) | (refine n_brT ?_ ?_; (focus (first | (simp; done) | (simp; omega))); (refine st rfl ?_; conv => arg 3; whnf)) | (refine n_brF ?_ ?_; (focus (first | (simp; done) | (simp; omega))); (refine st rfl ?_; conv => arg 3; whnf))))
                    refine n_exit rfl ?_
                    (refine st rfl ?_; conv => arg 3; whnf)
                    (repeat (first | (refine n_must rfl ?_; (refine st rfl ?_; conv => arg 3; whnf)) | (refine n_chk (drawF_ok (by decide +kernel)) ?_; (refine st rfl ?_; conv => arg 3; whnf)) | (refine n_same rfl ?_; (refine st rfl ?_; conv => arg 3; whnf)) | (refine n_must ?_ ?_; (focus (first | (simp [f1, f2]; done) | (simp [f1, f2]; omega) | (simp only [f1, f2]; simp; done))); (refine st rfl ?_; conv => arg 3; whnf)) | (refine n_brT ?_ ?_; (focus (first | (simp [f1, f2]; done) | (simp [f1, f2]; omega) | (simp only [f1, f2]; simp; done))); (refine st rfl ?_; conv => arg 3; whnf)) | (refine n_brF ?_ ?_; (focus (first | (simp [f1, f2]; done) | (simp [f1, f2]; omega) | (simp only [f1, f2]; simp; done))); (refine st rfl ?_; conv => arg 3; whnf))))
                    exact n_again ⟨(q + 1, upd ls ja s1, v + b), ⟨by dsimp only; omega, fair'⟩, by dsimp only; omega, (by (repeat (first | exact trivial | refine ⟨⟨rfl, rfl⟩, ?_⟩ | refine ⟨⟨rfl, congrArg (SV.int .i64) eq⟩, ?_⟩))), ⟨_, rfl⟩⟩
                · (repeat (first | (refine n_must rfl ?_; (refine st rfl ?_; conv => arg 3; whnf)) | (refine n_chk (drawF_ok (by decide +kernel)) ?_; (refine st rfl ?_; conv => arg 3; whnf)) | (refine n_same rfl ?_; (refine st rfl ?_; conv => arg 3; whnf)) | (refine n_must ?_ ?_; (focus (first | (simp; done) | (simp; omega))); (refine st rfl ?_; conv => arg 3; whnf)) | (refine n_brT ?_ ?_; (focus (first | (simp; done) | (simp; omega))); (refine st rfl ?_; conv => arg 3; whnf)) | (refine n_brF ?_ ?_; (focus (first | (simp; done) | (simp; omega))); (refine st rfl ?_; conv => arg 3; whnf))))
                  have pos1 : ∀ j, j < i → 0 ≤ (upd ls ja s1 j).all := fun j hj => ((fair').ok j hj).all_nonneg
                  have pos2 : ∀ j, j < i → 0 ≤ (upd ls ja s1 j).d := fun j hj => ((fair').ok j hj).d0
                  have f1 := (fair').sum
                  have f2 := (fair').down
                  obtain ⟨f3, f4⟩ := (fair').bounds
                  refine n_loop1 rfl fun _ => ?_
                  refine n_loop (σ := Nat) (fun t => [(0, .int .i64 L), (1, .int .i64 (i : Int)), (3, .raw (.slice (some ad) n cap)), (10, .raw (.slice (some ⟨g, 0, none⟩) i ca)), (15, .int .i64 (v + b)), (16, .int .i64 (q : Nat)), (25, .int .i64 (sumTo (fun k => (upd ls ja s1 k).all) t)), (26, .int .i64 (sumTo (fun k => (upd ls ja s1 k).d) t)), (27, .int .i64 (t : Nat))]) (fun _ => _) (fun t => t ≤ i) (fun t => i - t) 0 mixed (by simp) (fun _ _ => rfl) rfl (by (repeat (first | exact trivial | refine ⟨⟨rfl, rfl⟩, ?_⟩ | refine ⟨⟨rfl, congrArg (SV.int .i64) ev⟩, ?_⟩))) (fun s _ => ⟨by (repeat (first | exact trivial | refine ⟨⟨_, rfl⟩, ?_⟩)), by (repeat (first | exact trivial | refine ⟨⟨_, rfl⟩, ?_⟩))⟩) fun t ht => ?_
                  (refine st rfl ?_; conv => arg 3; whnf)
                  by_cases htl : t < i
                  · have et : IntKind.i64.wrap ((t : Int) + 1) = ((t + 1 : Nat) : Int) := by rw [w64 (by omega) (by omega)]; simp
                    have g1 := sumTo_mono pos1 (show t + 1 ≤ i by omega)
                    have g2 := sumTo_mono pos2 (show t + 1 ≤ i by omega)
                    have g3 := sumTo_nonneg (f := fun k => (upd ls ja s1 k).all) (n := t) (fun j hj => pos1 j (by omega))
                    have g4 := sumTo_nonneg (f := fun k => (upd ls ja s1 k).d) (n := t) (fun j hj => pos2 j (by omega))
                    have p1 := pos1 t htl
                    have p2 := pos2 t htl
                    rw [f1] at g1
                    rw [f2] at g2
                    have e1 : IntKind.i64.wrap (sumTo (fun k => (upd ls ja s1 k).all) t + (upd ls ja s1 t).all) = sumTo (fun k => (upd ls ja s1 k).all) (t + 1) := by simp only [sumTo] at g1 ⊢; exact w64 (by omega) (by omega)
                    have e2 : IntKind.i64.wrap (sumTo (fun k => (upd ls ja s1 k).d) t + (upd ls ja s1 t).d) = sumTo (fun k => (upd ls ja s1 k).d) (t + 1) := by simp only [sumTo] at g2 ⊢; exact w64 (by omega) (by omega)
                    obtain ⟨bt, hbt⟩ := hat t htl
                    (repeat (first | (refine n_must rfl ?_; (refine st rfl ?_; conv => arg 3; whnf)) | (refine n_chk (drawF_ok (by decide +kernel)) ?_; (refine st rfl ?_; conv => arg 3; whnf)) | (refine n_same rfl ?_; (refine st rfl ?_; conv => arg 3; whnf)) | (refine n_must ?_ ?_; (focus (first | (simp; done) | (simp; omega))); (refine st rfl ?_; conv => arg 3; whnf)) | (refine n_brT ?_ ?_; (focus (first | (simp; done) | (simp; omega))); (refine st rfl ?_; conv => arg 3; whnf)) | (refine n_brF ?_ ?_; (focus (first | (simp; done) | (simp; omega))); (refine st rfl ?_; conv => arg 3; whnf))))
                    refine n_ldI (.raw (.pointer (some ⟨bt, 0, none⟩))) rfl rfl (fun ids' w1 hp1 hI1 => ld_ptr (hI1.res 0 rfl rfl) hbt (by simp)) ?_
                    (refine st rfl ?_; conv => arg 3; whnf)
                    (repeat (first | (refine n_must rfl ?_; (refine st rfl ?_; conv => arg 3; whnf)) | (refine n_chk (drawF_ok (by decide +kernel)) ?_; (refine st rfl ?_; conv => arg 3; whnf)) | (refine n_same rfl ?_; (refine st rfl ?_; conv => arg 3; whnf)) | (refine n_must ?_ ?_; (focus (first | (simp; done) | (simp; omega))); (refine st rfl ?_; conv => arg 3; whnf)) | (refine n_brT ?_ ?_; (focus (first | (simp; done) | (simp; omega))); (refine st rfl ?_; conv => arg 3; whnf)) | (refine n_brF ?_ ?_; (focus (first | (simp; done) | (simp; omega))); (refine st rfl ?_; conv => arg 3; whnf))))
                    refine n_sameP (.int .i64 ((upd ls ja s1 t).all)) rfl rfl rfl (fun _ w1 hp1 hI1 => sum_ok _ ((fair').ok t htl) (hI1.res 1 rfl rfl t bt hbt)) ?_; (refine st rfl ?_; conv => arg 3; whnf)
                    (repeat (first | (refine n_must rfl ?_; (refine st rfl ?_; conv => arg 3; whnf)) | (refine n_chk (drawF_ok (by decide +kernel)) ?_; (refine st rfl ?_; conv => arg 3; whnf)) | (refine n_same rfl ?_; (refine st rfl ?_; conv => arg 3; whnf)) | (refine n_must ?_ ?_; (focus (first | (simp; done) | (simp; omega))); (refine st rfl ?_; conv => arg 3; whnf)) | (refine n_brT ?_ ?_; (focus (first | (simp; done) | (simp; omega))); (refine st rfl ?_; conv => arg 3; whnf)) | (refine n_brF ?_ ?_; (focus (first | (simp; done) | (simp; omega))); (refine st rfl ?_; conv => arg 3; whnf))))
                    refine n_ldI (.raw (.pointer (some ⟨bt, 0, none⟩))) rfl rfl (fun ids' w1 hp1 hI1 => ld_ptr (hI1.res 0 rfl rfl) hbt (by simp)) ?_
                    (refine st rfl ?_; conv => arg 3; whnf)
                    (repeat (first | (refine n_must rfl ?_; (refine st rfl ?_; conv => arg 3; whnf)) | (refine n_chk (drawF_ok (by decide +kernel)) ?_; (refine st rfl ?_; conv => arg 3; whnf)) | (refine n_same rfl ?_; (refine st rfl ?_; conv => arg 3; whnf)) | (refine n_must ?_ ?_; (focus (first | (simp; done) | (simp; omega))); (refine st rfl ?_; conv => arg 3; whnf)) | (refine n_brT ?_ ?_; (focus (first | (simp; done) | (simp; omega))); (refine st rfl ?_; conv => arg 3; whnf)) | (refine n_brF ?_ ?_; (focus (first | (simp; done) | (simp; omega))); (refine st rfl ?_; conv => arg 3; whnf))))
                    refine n_sameP (.agg [.int .i64 ((upd ls ja s1 t).d), .int .i64 ((upd ls ja s1 t).u)]) rfl rfl rfl (fun _ w1 hp1 hI1 => Rights_ok _ (hI1.res 1 rfl rfl t bt hbt)) ?_; (refine st rfl ?_; conv => arg 3; whnf)
                    (repeat (first | (refine n_must rfl ?_; (refine st rfl ?_; conv => arg 3; whnf)) | (refine n_chk (drawF_ok (by decide +kernel)) ?_; (refine st rfl ?_; conv => arg 3; whnf)) | (refine n_same rfl ?_; (refine st rfl ?_; conv => arg 3; whnf)) | (refine n_must ?_ ?_; (focus (first | (simp; done) | (simp; omega))); (refine st rfl ?_; conv => arg 3; whnf)) | (refine n_brT ?_ ?_; (focus (first | (simp; done) | (simp; omega))); (refine st rfl ?_; conv => arg 3; whnf)) | (refine n_brF ?_ ?_; (focus (first | (simp; done) | (simp; omega))); (refine st rfl ?_; conv => arg 3; whnf))))
                    exact n_again ⟨t + 1, by omega, by omega, (by (repeat (first | exact trivial | refine ⟨⟨rfl, rfl⟩, ?_⟩ | refine ⟨⟨rfl, congrArg (SV.int .i64) et⟩, ?_⟩ | refine ⟨⟨rfl, congrArg (SV.int .i64) e1⟩, ?_⟩ | refine ⟨⟨rfl, congrArg (SV.int .i64) e2⟩, ?_⟩))), ⟨[], rfl⟩⟩
                  · obtain rfl : t = i := by omega
                    (repeat (first | (refine n_must rfl ?_; (refine st rfl ?_; conv => arg 3; whnf)) | (refine n_chk (drawF_ok (by decide +kernel)) ?_; (refine st rfl ?_; conv => arg 3; whnf)) | (refine n_same rfl ?_; (refine st rfl ?_; conv => arg 3; whnf)) | (refine n_must ?_ ?_; (focus (first | (simp; done) | (simp; omega))); (refine st rfl ?_; conv => arg 3; whnf)) | (refine n_brT ?_ ?_; (focus (first | (simp; done) | (simp; omega))); (refine st rfl ?_; conv => arg 3; whnf)) | (refine n_brF ?_ ?_; (focus (first | (simp; done) | (simp; omega))); (refine st rfl ?_; conv => arg 3; whnf))))
                    refine n_exit rfl ?_
                    (refine st rfl ?_; conv => arg 3; whnf)
                    (repeat (first | (refine n_must rfl ?_; (refine st rfl ?_; conv => arg 3; whnf)) | (refine n_chk (drawF_ok (by decide +kernel)) ?_; (refine st rfl ?_; conv => arg 3; whnf)) | (refine n_same rfl ?_; (refine st rfl ?_; conv => arg 3; whnf)) | (refine n_must ?_ ?_; (focus (first | (simp [f1, f2]; done) | (simp [f1, f2]; omega) | (simp only [f1, f2]; simp; done))); (refine st rfl ?_; conv => arg 3; whnf)) | (refine n_brT ?_ ?_; (focus (first | (simp [f1, f2]; done) | (simp [f1, f2]; omega) | (simp only [f1, f2]; simp; done))); (refine st rfl ?_; conv => arg 3; whnf)) | (refine n_brF ?_ ?_; (focus (first | (simp [f1, f2]; done) | (simp [f1, f2]; omega) | (simp only [f1, f2]; simp; done))); (refine st rfl ?_; conv => arg 3; whnf))))
                    exact n_again ⟨(q + 1, upd ls ja s1, v + b), ⟨by dsimp only; omega, fair'⟩, by dsimp only; omega, (by (repeat (first | exact trivial | refine ⟨⟨rfl, rfl⟩, ?_⟩ | refine ⟨⟨rfl, congrArg (SV.int .i64) eq⟩, ?_⟩))), ⟨_, rfl⟩⟩
              · have fair' : Fair (upd ls ja s1) i L v := by
                  have e : v - (ls ja).d + s1.d = v := by rw [t5, if_neg hT1, if_neg hT2]; omega
                  rw [e] at fair0; exact fair0
                (repeat (first | (refine n_must rfl ?_; (refine st rfl ?_; conv => arg 3; whnf)) | (refine n_chk (drawF_ok (by decide +kernel)) ?_; (refine st rfl ?_; conv => arg 3; whnf)) | (refine n_same rfl ?_; (refine st rfl ?_; conv => arg 3; whnf)) | (refine n_must ?_ ?_; (focus (first | (simp; done) | (simp; omega))); (refine st rfl ?_; conv => arg 3; whnf)) | (refine n_brT ?_ ?_; (focus (first | (simp; done) | (simp; omega))); (refine st rfl ?_; conv => arg 3; whnf)) | (refine n_brF ?_ ?_; (focus (first | (simp; done) | (simp; omega))); (refine st rfl ?_; conv => arg 3; whnf))))
                have pos1 : ∀ j, j < i → 0 ≤ (upd ls ja s1 j).all := fun j hj => ((fair').ok j hj).all_nonneg
                have pos2 : ∀ j, j < i → 0 ≤ (upd ls ja s1 j).d := fun j hj => ((fair').ok j hj).d0
                have f1 := (fair').sum
                have f2 := (fair').down
                obtain ⟨f3, f4⟩ := (fair').bounds
                refine n_loop1 rfl fun _ => ?_
                refine n_loop (σ := Nat) (fun t => [(0, .int .i64 L), (1, .int .i64 (i : Int)), (3, .raw (.slice (some ad) n cap)), (10, .raw (.slice (some ⟨g, 0, none⟩) i ca)), (15, .int .i64 (v)), (16, .int .i64 (q : Nat)), (25, .int .i64 (sumTo (fun k => (upd ls ja s1 k).all) t)), (26, .int .i64 (sumTo (fun k => (upd ls ja s1 k).d) t)), (27, .int .i64 (t : Nat))]) (fun _ => _) (fun t => t ≤ i) (fun t => i - t) 0 mixed (by simp) (fun _ _ => rfl) rfl (by (repeat (first | exact trivial | refine ⟨⟨rfl, rfl⟩, ?_⟩))) (fun s _ => ⟨by (repeat (first | exact trivial | refine ⟨⟨_, rfl⟩, ?_⟩)), by (repeat (first | exact trivial | refine ⟨⟨_, rfl⟩, ?_⟩))⟩) fun t ht => ?_
                (refine st rfl ?_; conv => arg 3; whnf)
                by_cases htl : t < i
                · have et : IntKind.i64.wrap ((t : Int) + 1) = ((t + 1 : Nat) : Int) := by rw [w64 (by omega) (by omega)]; simp
                  have g1 := sumTo_mono pos1 (show t + 1 ≤ i by omega)
                  have g2 := sumTo_mono pos2 (show t + 1 ≤ i by omega)
                  have g3 := sumTo_nonneg (f := fun k => (upd ls ja s1 k).all) (n := t) (fun j hj => pos1 j (by omega))
                  have g4 := sumTo_nonneg (f := fun k => (upd ls ja s1 k).d) (n := t) (fun j hj => pos2 j (by omega))
                  have p1 := pos1 t htl
                  have p2 := pos2 t htl
                  rw [f1] at g1
                  rw [f2] at g2
                  have e1 : IntKind.i64.wrap (sumTo (fun k => (upd ls ja s1 k).all) t + (upd ls ja s1 t).all) = sumTo (fun k => (upd ls ja s1 k).all) (t + 1) := by simp only [sumTo] at g1 ⊢; exact w64 (by omega) (by omega)
                  have e2 : IntKind.i64.wrap (sumTo (fun k => (upd ls ja s1 k).d) t + (upd ls ja s1 t).d) = sumTo (fun k => (upd ls ja s1 k).d) (t + 1) := by simp only [sumTo] at g2 ⊢; exact w64 (by omega) (by omega)
                  obtain ⟨bt, hbt⟩ := hat t htl
                  (repeat (first | (refine n_must rfl ?_; (refine st rfl ?_; conv => arg 3; whnf)) | (refine n_chk (drawF_ok (by decide +kernel)) ?_; (refine st rfl ?_; conv => arg 3; whnf)) | (refine n_same rfl ?_; (refine st rfl ?_; conv => arg 3; whnf)) | (refine n_must ?_ ?_; (focus (first | (simp; done) | (simp; omega))); (refine st rfl ?_; conv => arg 3; whnf)) | (refine n_brT ?_ ?_; (focus (first | (simp; done) | (simp; omega))); (refine st rfl ?_; conv => arg 3; whnf)) | (refine n_brF ?_ ?_; (focus (first | (simp; done) | (simp; omega))); (refine st rfl ?_; conv => arg 3; whnf))))
                  refine n_ldI (.raw (.pointer (some ⟨bt, 0, none⟩))) rfl rfl (fun ids' w1 hp1 hI1 => ld_ptr (hI1.res 0 rfl rfl) hbt (by simp)) ?_
                  (refine st rfl ?_; conv => arg 3; whnf)
                  (repeat (first | (refine n_must rfl ?_; (refine st rfl ?_; conv => arg 3; whnf)) | (refine n_chk (drawF_ok (by decide +kernel)) ?_; (refine st rfl ?_; conv => arg 3; whnf)) | (refine n_same rfl ?_; (refine st rfl ?_; conv => arg 3; whnf)) | (refine n_must ?_ ?_; (focus (first | (simp; done) | (simp; omega))); (refine st rfl ?_; conv => arg 3; whnf)) | (refine n_brT ?_ ?_; (focus (first | (simp; done) | (simp; omega))); (refine st rfl ?_; conv => arg 3; whnf)) | (refine n_brF ?_ ?_; (focus (first | (simp; done) | (simp; omega))); (refine st rfl ?_; conv => arg 3; whnf))))
                  refine n_sameP (.int .i64 ((upd ls ja s1 t).all)) rfl rfl rfl (fun _ w1 hp1 hI1 => sum_ok _ ((fair').ok t htl) (hI1.res 1 rfl rfl t bt hbt)) ?_; (refine st rfl ?_; conv => arg 3; whnf)
                  (repeat (first | (refine n_must rfl ?_; (refine st rfl ?_; conv => arg 3; whnf)) | (refine n_chk (drawF_ok (by decide +kernel)) ?_; (refine st rfl ?_; conv => arg 3; whnf)) | (refine n_same rfl ?_; (refine st rfl ?_; conv => arg 3; whnf)) | (refine n_must ?_ ?_; (focus (first | (simp; done) | (simp; omega))); (refine st rfl ?_; conv => arg 3; whnf)) | (refine n_brT ?_ ?_; (focus (first | (simp; done) | (simp; omega))); (refine st rfl ?_; conv => arg 3; whnf)) | (refine n_brF ?_ ?_; (focus (first | (simp; done) | (simp; omega))); (refine st rfl ?_; conv => arg 3; whnf))))
                  refine n_ldI (.raw (.pointer (some ⟨bt, 0, none⟩))) rfl rfl (fun ids' w1 hp1 hI1 => ld_ptr (hI1.res 0 rfl rfl) hbt (by simp)) ?_
                  (refine st rfl ?_; conv => arg 3; whnf)
                  (repeat (first | (refine n_must rfl ?_; (refine st rfl ?_; conv => arg 3; whnf)) | (refine n_chk (drawF_ok (by decide +kernel)) ?_; (refine st rfl ?_; conv => arg 3; whnf)) | (refine n_same rfl ?_; (refine st rfl ?_; conv => arg 3; whnf)) | (refine n_must ?_ ?_; (focus (first | (simp; done) | (simp; omega))); (refine st rfl ?_; conv => arg 3; whnf)) | (refine n_brT ?_ ?_; (focus (first | (simp; done) | (simp; omega))); (refine st rfl ?_; conv => arg 3; whnf)) | (refine n_brF ?_ ?_; (focus (first | (simp; done) | (simp; omega))); (refine st rfl ?_; conv => arg 3; whnf))))
                  refine n_sameP (.agg [.int .i64 ((upd ls ja s1 t).d), .int .i64 ((upd ls ja s1 t).u)]) rfl rfl rfl (fun _ w1 hp1 hI1 => Rights_ok _ (hI1.res 1 rfl rfl t bt hbt)) ?_; (refine st rfl ?_; conv => arg 3; whnf)
                  (repeat (first | (refine n_must rfl ?_; (refine st rfl ?_; conv => arg 3; whnf)) | (refine n_chk (drawF_ok (by decide +kernel)) ?_; (refine st rfl ?_; conv => arg 3; whnf)) | (refine n_same rfl ?_; (refine st rfl ?_; conv => arg 3; whnf)) | (refine n_must ?_ ?_; (focus (first | (simp; done) | (simp; omega))); (refine st rfl ?_; conv => arg 3; whnf)) | (refine n_brT ?_ ?_; (focus (first | (simp; done) | (simp; omega))); (refine st rfl ?_; conv => arg 3; whnf)) | (refine n_brF ?_ ?_; (focus (first | (simp; done) | (simp; omega))); (refine st rfl ?_; conv => arg 3; whnf))))
                  exact n_again ⟨t + 1, by omega, by omega, (by (repeat (first | exact trivial | refine ⟨⟨rfl, rfl⟩, ?_⟩ | refine ⟨⟨rfl, congrArg (SV.int .i64) et⟩, ?_⟩ | refine ⟨⟨rfl, congrArg (SV.int .i64) e1⟩, ?_⟩ | refine ⟨⟨rfl, congrArg (SV.int .i64) e2⟩, ?_⟩))), ⟨[], rfl⟩⟩
                · obtain rfl : t = i := by omega
                  (repeat (first | (refine n_must rfl ?_; (refine st rfl ?_; conv => arg 3; whnf)) | (refine n_chk (drawF_ok (by decide +kernel)) ?_; (refine st rfl ?_; conv => arg 3; whnf)) | (refine n_same rfl ?_; (refine st rfl ?_; conv => arg 3; whnf)) | (refine n_must ?_ ?_; (focus (first | (simp; done) | (simp; omega))); (refine st rfl ?_; conv => arg 3; whnf)) | (refine n_brT ?_ ?_; (focus (first | (simp; done) | (simp; omega))); (refine st rfl ?_; conv => arg 3; whnf)) | (refine n_brF ?_ ?_; (focus (first | (simp; done) | (simp; omega))); (refine st rfl ?_; conv => arg 3; whnf))))
                  refine n_exit rfl ?_
                  (refine st rfl ?_; conv => arg 3; whnf)
                  (repeat (first | (refine n_must rfl ?_; (refine st rfl ?_; conv => arg 3; whnf)) | (refine n_chk (drawF_ok (by decide +kernel)) ?_; (refine st rfl ?_; conv => arg 3; whnf)) | (refine n_same rfl ?_; (refine st rfl ?_; conv => arg 3; whnf)) | (refine n_must ?_ ?_; (focus (first | (simp [f1, f2]; done) | (simp [f1, f2]; omega) | (simp only [f1, f2]; simp; done))); (refine st rfl ?_; conv => arg 3; whnf)) | (refine n_brT ?_ ?_; (focus (first | (simp [f1, f2]; done) | (simp [f1, f2]; omega) | (simp only [f1, f2]; simp; done))); (refine st rfl ?_; conv => arg 3; whnf)) | (refine n_brF ?_ ?_; (focus (first | (simp [f1, f2]; done) | (simp [f1, f2]; omega) | (simp only [f1, f2]; simp; done))); (refine st rfl ?_; conv => arg 3; whnf))))
                  exact n_again ⟨(q + 1, upd ls ja s1, v), ⟨by dsimp only; omega, fair'⟩, by dsimp only; omega, (by (repeat (first | exact trivial | refine ⟨⟨rfl, rfl⟩, ?_⟩ | refine ⟨⟨rfl, congrArg (SV.int .i64) eq⟩, ?_⟩))), ⟨_, rfl⟩⟩
          | arg =>
            obtain rfl := turn_err he (by simp)
            have fair' := fair.same ja
            refine n_led 1 ja ba (ls ja) (.int .i64 1) rfl rfl rfl rfl hnd hba (fun ids' w1 hp1 hI1 hblk => hturn w1 (hs.frm hI1.frm hS hB) (Nat.le_trans hB hI1.frm.size) hblk) ?_
            (refine st rfl ?_; conv => arg 3; whnf)
            (repeat (first | (refine n_must rfl ?_; (refine st rfl ?_; conv => arg 3; whnf)) | (refine n_chk (drawF_ok (by decide +kernel)) ?_; (refine st rfl ?_; conv => arg 3; whnf)) | (refine n_same rfl ?_; (refine st rfl ?_; conv => arg 3; whnf)) | (refine n_must ?_ ?_; (focus (first | (simp; done) | (simp; omega))); (refine st rfl ?_; conv => arg 3; whnf)) | (refine n_brT ?_ ?_; (focus (first | (simp; done) | (simp; omega))); (refine st rfl ?_; conv => arg 3; whnf)) | (refine n_brF ?_ ?_; (focus (first | (simp; done) | (simp; omega))); (refine st rfl ?_; conv => arg 3; whnf))))
            have pos1 : ∀ j, j < i → 0 ≤ (upd ls ja (ls ja) j).all := fun j hj => ((fair').ok j hj).all_nonneg
            have pos2 : ∀ j, j < i → 0 ≤ (upd ls ja (ls ja) j).d := fun j hj => ((fair').ok j hj).d0
            have f1 := (fair').sum
            have f2 := (fair').down
            obtain ⟨f3, f4⟩ := (fair').bounds
            refine n_loop1 rfl fun _ => ?_
            refine n_loop (σ := Nat) (fun t => [(0, .int .i64 L), (1, .int .i64 (i : Int)), (3, .raw (.slice (some ad) n cap)), (10, .raw (.slice (some ⟨g, 0, none⟩) i ca)), (15, .int .i64 (v)), (16, .int .i64 (q : Nat)), (25, .int .i64 (sumTo (fun k => (upd ls ja (ls ja) k).all) t)), (26, .int .i64 (sumTo (fun k => (upd ls ja (ls ja) k).d) t)), (27, .int .i64 (t : Nat))]) (fun _ => _) (fun t => t ≤ i) (fun t => i - t) 0 mixed (by simp) (fun _ _ => rfl) rfl (by (repeat (first | exact trivial | refine ⟨⟨rfl, rfl⟩, ?_⟩))) (fun s _ => ⟨by (repeat (first | exact trivial | refine ⟨⟨_, rfl⟩, ?_⟩)), by (repeat (first | exact trivial | refine ⟨⟨_, rfl⟩, ?_⟩))⟩) fun t ht => ?_
            (refine st rfl ?_; conv => arg 3; whnf)
            by_cases htl : t < i
            · have et : IntKind.i64.wrap ((t : Int) + 1) = ((t + 1 : Nat) : Int) := by rw [w64 (by omega) (by omega)]; simp
              have g1 := sumTo_mono pos1 (show t + 1 ≤ i by omega)
              have g2 := sumTo_mono pos2 (show t + 1 ≤ i by omega)
              have g3 := sumTo_nonneg (f := fun k => (upd ls ja (ls ja) k).all) (n := t) (fun j hj => pos1 j (by omega))
              have g4 := sumTo_nonneg (f := fun k => (upd ls ja (ls ja) k).d) (n := t) (fun j hj => pos2 j (by omega))
              have p1 := pos1 t htl
              have p2 := pos2 t htl
              rw [f1] at g1
              rw [f2] at g2
              have e1 : IntKind.i64.wrap (sumTo (fun k => (upd ls ja (ls ja) k).all) t + (upd ls ja (ls ja) t).all) = sumTo (fun k => (upd ls ja (ls ja) k).all) (t + 1) := by simp only [sumTo] at g1 ⊢; exact w64 (by omega) (by omega)
              have e2 : IntKind.i64.wrap (sumTo (fun k => (upd ls ja (ls ja) k).d) t + (upd ls ja (ls ja) t).d) = sumTo (fun k => (upd ls ja (ls ja) k).d) (t + 1) := by simp only [sumTo] at g2 ⊢; exact w64 (by omega) (by omega)
              obtain ⟨bt, hbt⟩ := hat t htl
              (repeat (first | (refine n_must rfl ?_; (refine st rfl ?_; conv => arg 3; whnf)) | (refine n_chk (drawF_ok (by decide +kernel)) ?_; (refine st rfl ?_; conv => arg 3; whnf)) | (refine n_same rfl ?_; (refine st rfl ?_; conv => arg 3; whnf)) | (refine n_must ?_ ?_; (focus (first | (simp; done) | (simp; omega))); (refine st rfl ?_; conv => arg 3; whnf)) | (refine n_brT ?_ ?_; (focus (first | (simp; done) | (simp; omega))); (refine st rfl ?_; conv => arg 3; whnf)) | (refine n_brF ?_ ?_; (focus (first | (simp; done) | (simp; omega))); (refine st rfl ?_; conv => arg 3; whnf))))
              refine n_ldI (.raw (.pointer (some ⟨bt, 0, none⟩))) rfl rfl (fun ids' w1 hp1 hI1 => ld_ptr (hI1.res 0 rfl rfl) hbt (by simp)) ?_
              (refine st rfl ?_; conv => arg 3; whnf)
              (repeat (first | (refine n_must rfl ?_; (refine st rfl ?_; conv => arg 3; whnf)) | (refine n_chk (drawF_ok (by decide +kernel)) ?_; (refine st rfl ?_; conv => arg 3; whnf)) | (refine n_same rfl ?_; (refine st rfl ?_; conv => arg 3; whnf)) | (refine n_must ?_ ?_; (focus (first | (simp; done) | (simp; omega))); (refine st rfl ?_; conv => arg 3; whnf)) | (refine n_brT ?_ ?_; (focus (first | (simp; done) | (simp; omega))); (refine st rfl ?_; conv => arg 3; whnf)) | (refine n_brF ?_ ?_; (focus (first | (simp; done) | (simp; omega))); (refine st rfl ?_; conv => arg 3; whnf))))
              refine n_sameP (.int .i64 ((upd ls ja (ls ja) t).all)) rfl rfl rfl (fun _ w1 hp1 hI1 => sum_ok _ ((fair').ok t htl) (hI1.res 1 rfl rfl t bt hbt)) ?_; (refine st rfl ?_; conv => arg 3; whnf)
              (repeat (first | (refine n_must rfl ?_; (refine st rfl ?_; conv => arg 3; whnf)) | (refine n_chk (drawF_ok (by decide +kernel)) ?_; (refine st rfl ?_; conv => arg 3; whnf)) | (refine n_same rfl ?_; (refine st rfl ?_; conv => arg 3; whnf)) | (refine n_must ?_ ?_; (focus (first | (simp; done) | (simp; omega))); (refine st rfl ?_; conv => arg 3; whnf)) | (refine n_brT ?_ ?_; (focus (first | (simp; done) | (simp; omega))); (refine st rfl ?_; conv => arg 3; whnf)) | (refine n_brF ?_ ?_; (focus (first | (simp; done) | (simp; omega))); (refine st rfl ?_; conv => arg 3; whnf))))
              refine n_ldI (.raw (.pointer (some ⟨bt, 0, none⟩))) rfl rfl (fun ids' w1 hp1 hI1 => ld_ptr (hI1.res 0 rfl rfl) hbt (by simp)) ?_
              (refine st rfl ?_; conv => arg 3; whnf)
              (repeat (first | (refine n_must rfl ?_; (refine st rfl ?_; conv => arg 3; whnf)) | (refine n_chk (drawF_ok (by decide +kernel)) ?_; (refine st rfl ?_; conv => arg 3; whnf)) | (refine n_same rfl ?_; (refine st rfl ?_; conv => arg 3; whnf)) | (refine n_must ?_ ?_; (focus (first | (simp; done) | (simp; omega))); (refine st rfl ?_; conv => arg 3; whnf)) | (refine n_brT ?_ ?_; (focus (first | (simp; done) | (simp; omega))); (refine st rfl ?_; conv => arg 3; whnf)) | (refine n_brF ?_ ?_; (focus (first | (simp; done) | (simp; omega))); (refine st rfl ?_; conv => arg 3; whnf))))
              refine n_sameP (.agg [.int .i64 ((upd ls ja (ls ja) t).d), .int .i64 ((upd ls ja (ls ja) t).u)]) rfl rfl rfl (fun _ w1 hp1 hI1 => Rights_ok _ (hI1.res 1 rfl rfl t bt hbt)) ?_; (refine st rfl ?_; conv => arg 3; whnf)
              (repeat (first | (refine n_must rfl ?_; (refine st rfl ?_; conv => arg 3; whnf)) | (refine n_chk (drawF_ok (by decide +kernel)) ?_; (refine st rfl ?_; conv => arg 3; whnf)) | (refine n_same rfl ?_; (refine st rfl ?_; conv => arg 3; whnf)) | (refine n_must ?_ ?_; (focus (first | (simp; done) | (simp; omega))); (refine st rfl ?_; conv => arg 3; whnf)) | (refine n_brT ?_ ?_; (focus (first | (simp; done) | (simp; omega))); (refine st rfl ?_; conv => arg 3; whnf)) | (refine n_brF ?_ ?_; (focus (first | (simp; done) | (simp; omega))); (refine st rfl ?_; conv => arg 3; whnf))))
              exact n_again ⟨t + 1, by omega, by omega, (by (repeat (first | exact trivial | refine ⟨⟨rfl, rfl⟩, ?_⟩ | refine ⟨⟨rfl, congrArg (SV.int .i64) et⟩, ?_⟩ | refine ⟨⟨rfl, congrArg (SV.int .i64) e1⟩, ?_⟩ | refine ⟨⟨rfl, congrArg (SV.int .i64) e2⟩, ?_⟩))), ⟨[], rfl⟩⟩
            · obtain rfl : t = i := by omega
              (repeat (first | (refine n_must rfl ?_; (refine st rfl ?_; conv => arg 3; whnf)) | (refine n_chk (drawF_ok (by decide +kernel)) ?_; (refine st rfl ?_; conv => arg 3; whnf)) | (refine n_same rfl ?_; (refine st rfl ?_; conv => arg 3; whnf)) | (refine n_must ?_ ?_; (focus (first | (simp; done) | (simp; omega))); (refine st rfl ?_; conv => arg 3; whnf)) | (refine n_brT ?_ ?_; (focus (first | (simp; done) | (simp; omega))); (refine st rfl ?_; conv => arg 3; whnf)) | (refine n_brF ?_ ?_; (focus (first | (simp; done) | (simp; omega))); (refine st rfl ?_; conv => arg 3; whnf))))
              refine n_exit rfl ?_
              (refine st rfl ?_; conv => arg 3; whnf)
              (repeat (first | (refine n_must rfl ?_; (refine st rfl ?_; conv => arg 3; whnf)) | (refine n_chk (drawF_ok (by decide +kernel)) ?_; (refine st rfl ?_; conv => arg 3; whnf)) | (refine n_same rfl ?_; (refine st rfl ?_; conv => arg 3; whnf)) | (refine n_must ?_ ?_; (focus (first | (simp [f1, f2]; done) | (simp [f1, f2]; omega) | (simp only [f1, f2]; simp; done))); (refine st rfl ?_; conv => arg 3; whnf)) | (refine n_brT ?_ ?_; (focus (first | (simp [f1, f2]; done) | (simp [f1, f2]; omega) | (simp only [f1, f2]; simp; done))); (refine st rfl ?_; conv => arg 3; whnf)) | (refine n_brF ?_ ?_; (focus (first | (simp [f1, f2]; done) | (simp [f1, f2]; omega) | (simp only [f1, f2]; simp; done))); (refine st rfl ?_; conv => arg 3; whnf))))
              exact n_again ⟨(q + 1, upd ls ja (ls ja), v), ⟨by dsimp only; omega, fair'⟩, by dsimp only; omega, (by (repeat (first | exact trivial | refine ⟨⟨rfl, rfl⟩, ?_⟩ | refine ⟨⟨rfl, congrArg (SV.int .i64) eq⟩, ?_⟩))), ⟨_, rfl⟩⟩
          | rights =>
            obtain rfl := turn_err he (by simp)
            have fair' := fair.same ja
            refine n_led 1 ja ba (ls ja) (.int .i64 60) rfl rfl rfl rfl hnd hba (fun ids' w1 hp1 hI1 hblk => hturn w1 (hs.frm hI1.frm hS hB) (Nat.le_trans hB hI1.frm.size) hblk) ?_
            (refine st rfl ?_; conv => arg 3; whnf)
            (repeat (first | (refine n_must rfl ?_; (refine st rfl ?_; conv => arg 3; whnf)) | (refine n_chk (drawF_ok (by decide +kernel)) ?_; (refine st rfl ?_; conv => arg 3; whnf)) | (refine n_same rfl ?_; (refine st rfl ?_; conv => arg 3; whnf)) | (refine n_must ?_ ?_; (focus (first | (simp; done) | (simp; omega))); (refine st rfl ?_; conv => arg 3; whnf)) | (refine n_brT ?_ ?_; (focus (first | (simp; done) | (simp; omega))); (refine st rfl ?_; conv => arg 3; whnf)) | (refine n_brF ?_ ?_; (focus (first | (simp; done) | (simp; omega))); (refine st rfl ?_; conv => arg 3; whnf))))
            have pos1 : ∀ j, j < i → 0 ≤ (upd ls ja (ls ja) j).all := fun j hj => ((fair').ok j hj).all_nonneg
            have pos2 : ∀ j, j < i → 0 ≤ (upd ls ja (ls ja) j).d := fun j hj => ((fair').ok j hj).d0
            have f1 := (fair').sum
            have f2 := (fair').down
            obtain ⟨f3, f4⟩ := (fair').bounds
            refine n_loop1 rfl fun _ => ?_
            refine n_loop (σ := Nat) (fun t => [(0, .int .i64 L), (1, .int .i64 (i : Int)), (3, .raw (.slice (some ad) n cap)), (10, .raw (.slice (some ⟨g, 0, none⟩) i ca)), (15, .int .i64 (v)), (16, .int .i64 (q : Nat)), (25, .int .i64 (sumTo (fun k => (upd ls ja (ls ja) k).all) t)), (26, .int .i64 (sumTo (fun k => (upd ls ja (ls ja) k).d) t)), (27, .int .i64 (t : Nat))]) (fun _ => _) (fun t => t ≤ i) (fun t => i - t) 0 mixed (by simp) (fun _ _ => rfl) rfl (by (repeat (first | exact trivial | refine ⟨⟨rfl, rfl⟩, ?_⟩))) (fun s _ => ⟨by (repeat (first | exact trivial | refine ⟨⟨_, rfl⟩, ?_⟩)), by (repeat (first | exact trivial | refine ⟨⟨_, rfl⟩, ?_⟩))⟩) fun t ht => ?_
            (refine st rfl ?_; conv => arg 3; whnf)
            by_cases htl : t < i
            · have et : IntKind.i64.wrap ((t : Int) + 1) = ((t + 1 : Nat) : Int) := by rw [w64 (by omega) (by omega)]; simp
              have g1 := sumTo_mono pos1 (show t + 1 ≤ i by omega)
              have g2 := sumTo_mono pos2 (show t + 1 ≤ i by omega)
              have g3 := sumTo_nonneg (f := fun k => (upd ls ja (ls ja) k).all) (n := t) (fun j hj => pos1 j (by omega))
              have g4 := sumTo_nonneg (f := fun k => (upd ls ja (ls ja) k).d) (n := t) (fun j hj => pos2 j (by omega))
              have p1 := pos1 t htl
              have p2 := pos2 t htl
              rw [f1] at g1
              rw [f2] at g2
              have e1 : IntKind.i64.wrap (sumTo (fun k => (upd ls ja (ls ja) k).all) t + (upd ls ja (ls ja) t).all) = sumTo (fun k => (upd ls ja (ls ja) k).all) (t + 1) := by simp only [sumTo] at g1 ⊢; exact w64 (by omega) (by omega)
              have e2 : IntKind.i64.wrap (sumTo (fun k => (upd ls ja (ls ja) k).d) t + (upd ls ja (ls ja) t).d) = sumTo (fun k => (upd ls ja (ls ja) k).d) (t + 1) := by simp only [sumTo] at g2 ⊢; exact w64 (by omega) (by omega)
              obtain ⟨bt, hbt⟩ := hat t htl
              (repeat (first | (refine n_must rfl ?_; (refine st rfl ?_; conv => arg 3; whnf)) | (refine n_chk (drawF_ok (by decide +kernel)) ?_; (refine st rfl ?_; conv => arg 3; whnf)) | (refine n_same rfl ?_; (refine st rfl ?_; conv => arg 3; whnf)) | (refine n_must ?_ ?_; (focus (first | (simp; done) | (simp; omega))); (refine st rfl ?_; conv => arg 3; whnf)) | (refine n_brT ?_ ?_; (focus (first | (simp; done) | (simp; omega))); (refine st rfl ?_; conv => arg 3; whnf)) | (refine n_brF ?_ ?_; (focus (first | (simp; done) | (simp; omega))); (refine st rfl ?_; conv => arg 3; whnf))))
              refine n_ldI (.raw (.pointer (some ⟨bt, 0, none⟩))) rfl rfl (fun ids' w1 hp1 hI1 => ld_ptr (hI1.res 0 rfl rfl) hbt (by simp)) ?_
              (refine st rfl ?_; conv => arg 3; whnf)
              (repeat (first | (refine n_must rfl ?_; (refine st rfl ?_; conv => arg 3; whnf)) | (refine n_chk (drawF_ok (by decide +kernel)) ?_; (refine st rfl ?_; conv => arg 3; whnf)) | (refine n_same rfl ?_; (refine st rfl ?_; conv => arg 3; whnf)) | (refine n_must ?_ ?_; (focus (first | (simp; done) | (simp; omega))); (refine st rfl ?_; conv => arg 3; whnf)) | (refine n_brT ?_ ?_; (focus (first | (simp; done) | (simp; omega))); (refine st rfl ?_; conv => arg 3; whnf)) | (refine n_brF ?_ ?_; (focus (first | (simp; done) | (simp; omega))); (refine st rfl ?_; conv => arg 3; whnf))))
              refine n_sameP (.int .i64 ((upd ls ja (ls ja) t).all)) rfl rfl rfl (fun _ w1 hp1 hI1 => sum_ok _ ((fair').ok t htl) (hI1.res 1 rfl rfl t bt hbt)) ?_; (refine st rfl ?_; conv => arg 3; whnf)
              (repeat (first | (refine n_must rfl ?_; (refine st rfl ?_; conv => arg 3; whnf)) | (refine n_chk (drawF_ok (by decide +kernel)) ?_; (refine st rfl ?_; conv => arg 3; whnf)) | (refine n_same rfl ?_; (refine st rfl ?_; conv => arg 3; whnf)) | (refine n_must ?_ ?_; (focus (first | (simp; done) | (simp; omega))); (refine st rfl ?_; conv => arg 3; whnf)) | (refine n_brT ?_ ?_; (focus (first | (simp; done) | (simp; omega))); (refine st rfl ?_; conv => arg 3; whnf)) | (refine n_brF ?_ ?_; (focus (first | (simp; done) | (simp; omega))); (refine st rfl ?_; conv => arg 3; whnf))))
              refine n_ldI (.raw (.pointer (some ⟨bt, 0, none⟩))) rfl rfl (fun ids' w1 hp1 hI1 => ld_ptr (hI1.res 0 rfl rfl) hbt (by simp)) ?_
              (refine st rfl ?_; conv => arg 3; whnf)
              (repeat (first | (refine n_must rfl ?_; (refine st rfl ?_; conv => arg 3; whnf)) | (refine n_chk (drawF_ok (by decide +kernel)) ?_; (refine st rfl ?_; conv => arg 3; whnf)) | (refine n_same rfl ?_; (refine st rfl ?_; conv => arg 3; whnf)) | (refine n_must ?_ ?_; (focus (first | (simp; done) | (simp; omega))); (refine st rfl ?_; conv => arg 3; whnf)) | (refine n_brT ?_ ?_; (focus (first | (simp; done) | (simp; omega))); (refine st rfl ?_; conv => arg 3; whnf)) | (refine n_brF ?_ ?_; (focus (first | (simp; done) | (simp; omega))); (refine st rfl ?_; conv => arg 3; whnf))))
              refine n_sameP (.agg [.int .i64 ((upd ls ja (ls ja) t).d), .int .i64 ((upd ls ja (ls ja) t).u)]) rfl rfl rfl (fun _ w1 hp1 hI1 => Rights_ok _ (hI1.res 1 rfl rfl t bt hbt)) ?_; (refine st rfl ?_; conv => arg 3; whnf)
              (repeat (first | (refine n_must rfl ?_; (refine st rfl ?_; conv => arg 3; whnf)) | (refine n_chk (drawF_ok (by decide +kernel)) ?_; (refine st rfl ?_; conv => arg 3; whnf)) | (refine n_same rfl ?_; (refine st rfl ?_; conv => arg 3; whnf)) | (refine n_must ?_ ?_; (focus (first | (simp; done) | (simp; omega))); (refine st rfl ?_; conv => arg 3; whnf)) | (refine n_brT ?_ ?_; (focus (first | (simp; done) | (simp; omega))); (refine st rfl ?_; conv => arg 3; whnf)) | (refine n_brF ?_ ?_; (focus (first | (simp; done) | (simp; omega))); (refine st rfl ?_; conv => arg 3; whnf))))
              exact n_again ⟨t + 1, by omega, by omega, (by (repeat (first | exact trivial | refine ⟨⟨rfl, rfl⟩, ?_⟩ | refine ⟨⟨rfl, congrArg (SV.int .i64) et⟩, ?_⟩ | refine ⟨⟨rfl, congrArg (SV.int .i64) e1⟩, ?_⟩ | refine ⟨⟨rfl, congrArg (SV.int .i64) e2⟩, ?_⟩))), ⟨[], rfl⟩⟩
            · obtain rfl : t = i := by omega
              (repeat (first | (refine n_must rfl ?_; (refine st rfl ?_; conv => arg 3; whnf)) | (refine n_chk (drawF_ok (by decide +kernel)) ?_; (refine st rfl ?_; conv => arg 3; whnf)) | (refine n_same rfl ?_; (refine st rfl ?_; conv => arg 3; whnf)) | (refine n_must ?_ ?_; (focus (first | (simp; done) | (simp; omega))); (refine st rfl ?_; conv => arg 3; whnf)) | (refine n_brT ?_ ?_; (focus (first | (simp; done) | (simp; omega))); (refine st rfl ?_; conv => arg 3; whnf)) | (refine n_brF ?_ ?_; (focus (first | (simp; done) | (simp; omega))); (refine st rfl ?_; conv => arg 3; whnf))))
              refine n_exit rfl ?_
              (refine st rfl ?_; conv => arg 3; whnf)
              (repeat (first | (refine n_must rfl ?_; (refine st rfl ?_; conv => arg 3; whnf)) | (refine n_chk (drawF_ok (by decide +kernel)) ?_; (refine st rfl ?_; conv => arg 3; whnf)) | (refine n_same rfl ?_; (refine st rfl ?_; conv => arg 3; whnf)) | (refine n_must ?_ ?_; (focus (first | (simp [f1, f2]; done) | (simp [f1, f2]; omega) | (simp only [f1, f2]; simp; done))); (refine st rfl ?_; conv => arg 3; whnf)) | (refine n_brT ?_ ?_; (focus (first | (simp [f1, f2]; done) | (simp [f1, f2]; omega) | (simp only [f1, f2]; simp; done))); (refine st rfl ?_; conv => arg 3; whnf)) | (refine n_brF ?_ ?_; (focus (first | (simp [f1, f2]; done) | (simp [f1, f2]; omega) | (simp only [f1, f2]; simp; done))); (refine st rfl ?_; conv => arg 3; whnf))))
              exact n_again ⟨(q + 1, upd ls ja (ls ja), v), ⟨by dsimp only; omega, fair'⟩, by dsimp only; omega, (by (repeat (first | exact trivial | refine ⟨⟨rfl, rfl⟩, ?_⟩ | refine ⟨⟨rfl, congrArg (SV.int .i64) eq⟩, ?_⟩))), ⟨_, rfl⟩⟩
          | cap =>
            obtain rfl := turn_err he (by simp)
            have fair' := fair.same ja
            refine n_led 1 ja ba (ls ja) (.int .i64 61) rfl rfl rfl rfl hnd hba (fun ids' w1 hp1 hI1 hblk => hturn w1 (hs.frm hI1.frm hS hB) (Nat.le_trans hB hI1.frm.size) hblk) ?_
            (refine st rfl ?_; conv => arg 3; whnf)
            (repeat (first | (refine n_must rfl ?_; (refine st rfl ?_; conv => arg 3; whnf)) | (refine n_chk (drawF_ok (by decide +kernel)) ?_; (refine st rfl ?_; conv => arg 3; whnf)) | (refine n_same rfl ?_; (refine st rfl ?_; conv => arg 3; whnf)) | (refine n_must ?_ ?_; (focus (first | (simp; done) | (simp; omega))); (refine st rfl ?_; conv => arg 3; whnf)) | (refine n_brT ?_ ?_; (focus (first | (simp; done) | (simp; omega))); (refine st rfl ?_; conv => arg 3; whnf)) | (refine n_brF ?_ ?_; (focus (first | (simp; done) | (simp; omega))); (refine st rfl ?_; conv => arg 3; whnf))))
            have pos1 : ∀ j, j < i → 0 ≤ (upd ls ja (ls ja) j).all := fun j hj => ((fair').ok j hj).all_nonneg
            have pos2 : ∀ j, j < i → 0 ≤ (upd ls ja (ls ja) j).d := fun j hj => ((fair').ok j hj).d0
            have f1 := (fair').sum
            have f2 := (fair').down
            obtain ⟨f3, f4⟩ := (fair').bounds
            refine n_loop1 rfl fun _ => ?_
            refine n_loop (σ := Nat) (fun t => [(0, .int .i64 L), (1, .int .i64 (i : Int)), (3, .raw (.slice (some ad) n cap)), (10, .raw (.slice (some ⟨g, 0, none⟩) i ca)), (15, .int .i64 (v)), (16, .int .i64 (q : Nat)), (25, .int .i64 (sumTo (fun k => (upd ls ja (ls ja) k).all) t)), (26, .int .i64 (sumTo (fun k => (upd ls ja (ls ja) k).d) t)), (27, .int .i64 (t : Nat))]) (fun _ => _) (fun t => t ≤ i) (fun t => i - t) 0 mixed (by simp) (fun _ _ => rfl) rfl (by (repeat (first | exact trivial | refine ⟨⟨rfl, rfl⟩, ?_⟩))) (fun s _ => ⟨by (repeat (first | exact trivial | refine ⟨⟨_, rfl⟩, ?_⟩)), by (repeat (first | exact trivial | refine ⟨⟨_, rfl⟩, ?_⟩))⟩) fun t ht => ?_
            (refine st rfl ?_; conv => arg 3; whnf)
            by_cases htl : t < i
            · have et : IntKind.i64.wrap ((t : Int) + 1) = ((t + 1 : Nat) : Int) := by rw [w64 (by omega) (by omega)]; simp
              have g1 := sumTo_mono pos1 (show t + 1 ≤ i by omega)
              have g2 := sumTo_mono pos2 (show t + 1 ≤ i by omega)
              have g3 := sumTo_nonneg (f := fun k => (upd ls ja (ls ja) k).all) (n := t) (fun j hj => pos1 j (by omega))
              have g4 := sumTo_nonneg (f := fun k => (upd ls ja (ls ja) k).d) (n := t) (fun j hj => pos2 j (by omega))
              have p1 := pos1 t htl
              have p2 := pos2 t htl
              rw [f1] at g1
              rw [f2] at g2
              have e1 : IntKind.i64.wrap (sumTo (fun k => (upd ls ja (ls ja) k).all) t + (upd ls ja (ls ja) t).all) = sumTo (fun k => (upd ls ja (ls ja) k).all) (t + 1) := by simp only [sumTo] at g1 ⊢; exact w64 (by omega) (by omega)
              have e2 : IntKind.i64.wrap (sumTo (fun k => (upd ls ja (ls ja) k).d) t + (upd ls ja (ls ja) t).d) = sumTo (fun k => (upd ls ja (ls ja) k).d) (t + 1) := by simp only [sumTo] at g2 ⊢; exact w64 (by omega) (by omega)
              obtain ⟨bt, hbt⟩ := hat t htl
              (repeat (first | (refine n_must rfl ?_; (refine st rfl ?_; conv => arg 3; whnf)) | (refine n_chk (drawF_ok (by decide +kernel)) ?_; (refine st rfl ?_; conv => arg 3; whnf)) | (refine n_same rfl ?_; (refine st rfl ?_; conv => arg 3; whnf)) | (refine n_must ?_ ?_; (focus (first | (simp; done) | (simp; omega))); (refine st rfl ?_; conv => arg 3; whnf)) | (refine n_brT ?_ ?_; (focus (first | (simp; done) | (simp; omega))); (refine st rfl ?_; conv => arg 3; whnf)) | (refine n_brF ?_ ?_; (focus (first | (simp; done) | (simp; omega))); (refine st rfl ?_; conv => arg 3; whnf))))
              refine n_ldI (.raw (.pointer (some ⟨bt, 0, none⟩))) rfl rfl (fun ids' w1 hp1 hI1 => ld_ptr (hI1.res 0 rfl rfl) hbt (by simp)) ?_
              (refine st rfl ?_; conv => arg 3; whnf)
              (repeat (first | (refine n_must rfl ?_; (refine st rfl ?_; conv => arg 3; whnf)) | (refine n_chk (drawF_ok (by decide +kernel)) ?_; (refine st rfl ?_; conv => arg 3; whnf)) | (refine n_same rfl ?_; (refine st rfl ?_; conv => arg 3; whnf)) | (refine n_must ?_ ?_; (focus (first | (simp; done) | (simp; omega))); (refine st rfl ?_; conv => arg 3; whnf)) | (refine n_brT ?_ ?_; (focus (first | (simp; done) | (simp; omega))); (refine st rfl ?_; conv => arg 3; whnf)) | (refine n_brF ?_ ?_; (focus (first | (simp; done) | (simp; omega))); (refine st rfl ?_; conv => arg 3; whnf))))
              refine n_sameP (.int .i64 ((upd ls ja (ls ja) t).all)) rfl rfl rfl (fun _ w1 hp1 hI1 => sum_ok _ ((fair').ok t htl) (hI1.res 1 rfl rfl t bt hbt)) ?_; (refine st rfl ?_; conv => arg 3; whnf)
              (repeat (first | (refine n_must rfl ?_; (refine st rfl ?_; conv => arg 3; whnf)) | (refine n_chk (drawF_ok (by decide +kernel)) ?_; (refine st rfl ?_; conv => arg 3; whnf)) | (refine n_same rfl ?_; (refine st rfl ?_; conv => arg 3; whnf)) | (refine n_must ?_ ?_; (focus (first | (simp; done) | (simp; omega))); (refine st rfl ?_; conv => arg 3; whnf)) | (refine n_brT ?_ ?_; (focus (first | (simp; done) | (simp; omega))); (refine st rfl ?_; conv => arg 3; whnf)) | (refine n_brF ?_ ?_; (focus (first | (simp; done) | (simp; omega))); (refine st rfl ?_; conv => arg 3; whnf))))
              refine n_ldI (.raw (.pointer (some ⟨bt, 0, none⟩))) rfl rfl (fun ids' w1 hp1 hI1 => ld_ptr (hI1.res 0 rfl rfl) hbt (by simp)) ?_
              (refine st rfl ?_; conv => arg 3; whnf)
              (repeat (first | (refine n_must rfl ?_; (refine st rfl ?_; conv => arg 3; whnf)) | (refine n_chk (drawF_ok (by decide +kernel)) ?_; (refine st rfl ?_; conv => arg 3; whnf)) | (refine n_same rfl ?_; (refine st rfl ?_; conv => arg 3; whnf)) | (refine n_must ?_ ?_; (focus (first | (simp; done) | (simp; omega))); (refine st rfl ?_; conv => arg 3; whnf)) | (refine n_brT ?_ ?_; (focus (first | (simp; done) | (simp; omega))); (refine st rfl ?_; conv => arg 3; whnf)) | (refine n_brF ?_ ?_; (focus (first | (simp; done) | (simp; omega))); (refine st rfl ?_; conv => arg 3; whnf))))
              refine n_sameP (.agg [.int .i64 ((upd ls ja (ls ja) t).d), .int .i64 ((upd ls ja (ls ja) t).u)]) rfl rfl rfl (fun _ w1 hp1 hI1 => Rights_ok _ (hI1.res 1 rfl rfl t bt hbt)) ?_; (refine st rfl ?_; conv => arg 3; whnf)
              (repeat (first | (refine n_must rfl ?_; (refine st rfl ?_; conv => arg 3; whnf)) | (refine n_chk (drawF_ok (by decide +kernel)) ?_; (refine st rfl ?_; conv => arg 3; whnf)) | (refine n_same rfl ?_; (refine st rfl ?_; conv => arg 3; whnf)) | (refine n_must ?_ ?_; (focus (first | (simp; done) | (simp; omega))); (refine st rfl ?_; conv => arg 3; whnf)) | (refine n_brT ?_ ?_; (focus (first | (simp; done) | (simp; omega))); (refine st rfl ?_; conv => arg 3; whnf)) | (refine n_brF ?_ ?_; (focus (first | (simp; done) | (simp; omega))); (refine st rfl ?_; conv => arg 3; whnf))))
              exact n_again ⟨t + 1, by omega, by omega, (by (repeat (first | exact trivial | refine ⟨⟨rfl, rfl⟩, ?_⟩ | refine ⟨⟨rfl, congrArg (SV.int .i64) et⟩, ?_⟩ | refine ⟨⟨rfl, congrArg (SV.int .i64) e1⟩, ?_⟩ | refine ⟨⟨rfl, congrArg (SV.int .i64) e2⟩, ?_⟩))), ⟨[], rfl⟩⟩
            · obtain rfl : t = i := by omega
              (repeat (first | (refine n_must rfl ?_; (refine st rfl ?_; conv => arg 3; whnf)) | (refine n_chk (drawF_ok (by decide +kernel)) ?_; (refine st rfl ?_; conv => arg 3; whnf)) | (refine n_same rfl ?_; (refine st rfl ?_; conv => arg 3; whnf)) | (refine n_must ?_ ?_; (focus (first | (simp; done) | (simp; omega))); (refine st rfl ?_; conv => arg 3; whnf)) | (refine n_brT ?_ ?_; (focus (first | (simp; done) | (simp; omega))); (refine st rfl ?_; conv => arg 3; whnf)) | (refine n_brF ?_ ?_; (focus (first | (simp; done) | (simp; omega))); (refine st rfl ?_; conv => arg 3; whnf))))
              refine n_exit rfl ?_
              (refine st rfl ?_; conv => arg 3; whnf)
              (repeat (first | (refine n_must rfl ?_; (refine st rfl ?_; conv => arg 3; whnf)) | (refine n_chk (drawF_ok (by decide +kernel)) ?_; (refine st rfl ?_; conv => arg 3; whnf)) | (refine n_same rfl ?_; (refine st rfl ?_; conv => arg 3; whnf)) | (refine n_must ?_ ?_; (focus (first | (simp [f1, f2]; done) | (simp [f1, f2]; omega) | (simp only [f1, f2]; simp; done))); (refine st rfl ?_; conv => arg 3; whnf)) | (refine n_brT ?_ ?_; (focus (first | (simp [f1, f2]; done) | (simp [f1, f2]; omega) | (simp only [f1, f2]; simp; done))); (refine st rfl ?_; conv => arg 3; whnf)) | (refine n_brF ?_ ?_; (focus (first | (simp [f1, f2]; done) | (simp [f1, f2]; omega) | (simp only [f1, f2]; simp; done))); (refine st rfl ?_; conv => arg 3; whnf))))
              exact n_again ⟨(q + 1, upd ls ja (ls ja), v), ⟨by dsimp only; omega, fair'⟩, by dsimp only; omega, (by (repeat (first | exact trivial | refine ⟨⟨rfl, rfl⟩, ?_⟩ | refine ⟨⟨rfl, congrArg (SV.int .i64) eq⟩, ?_⟩))), ⟨_, rfl⟩⟩
    · (repeat' (first | (refine n_must rfl ?_; (refine st rfl ?_; conv => arg 3; whnf)) | (refine n_chk (drawF_ok (by decide +kernel)) ?_; (refine st rfl ?_; conv => arg 3; whnf)) | (refine n_same rfl ?_; (refine st rfl ?_; conv => arg 3; whnf)) | (refine n_must ?_ ?_; (focus (first | (simp; done) | (simp; omega))); (refine st rfl ?_; conv => arg 3; whnf)) | (refine n_brT ?_ ?_; (focus (first | (simp; done) | (simp; omega))); (refine st rfl ?_; conv => arg 3; whnf)) | (refine n_brF ?_ ?_; (focus (first | (simp; done) | (simp; omega))); (refine st rfl ?_; conv => arg 3; whnf)) | (refine n_br (fun hbr => ?_) (fun hbr => ?_) <;> simp at hbr <;> (refine st rfl ?_; conv => arg 3; whnf))))
      all_goals
        refine n_exit rfl ?_
        (refine st rfl ?_; conv => arg 3; whnf)
        (repeat (first | (refine n_must rfl ?_; (refine st rfl ?_; conv => arg 3; whnf)) | (refine n_chk (drawF_ok (by decide +kernel)) ?_; (refine st rfl ?_; conv => arg 3; whnf)) | (refine n_same rfl ?_; (refine st rfl ?_; conv => arg 3; whnf)) | (refine n_must ?_ ?_; (focus (first | (simp; done) | (simp; omega))); (refine st rfl ?_; conv => arg 3; whnf)) | (refine n_brT ?_ ?_; (focus (first | (simp; done) | (simp; omega))); (refine st rfl ?_; conv => arg 3; whnf)) | (refine n_brF ?_ ?_; (focus (first | (simp; done) | (simp; omega))); (refine st rfl ?_; conv => arg 3; whnf))))
        exact n_ret0 rfl rfl fun ids' w' hp hI' => ⟨rfl, hI'.frm⟩
end Go.Proofs.YthinmbcedgoglaaDoor
