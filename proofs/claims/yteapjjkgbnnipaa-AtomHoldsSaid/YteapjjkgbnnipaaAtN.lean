/- Chapter 16's law: AtomHolds: the walk. -/
import Derived.Test.YteapjjkgbnnipaaAtL
set_option maxRecDepth 100000
set_option linter.unusedSimpArgs false
set_option linter.unusedVariables false
set_option maxHeartbeats 4000000
namespace Go.Proofs.Yteapjjkgbnnipaa
open Go.RowKit

def kindOf (n : Int) : Int := if n = 0 then 5 else if n = 1 then 6 else 12
theorem kindOf_end (n : Int) : kindOf n = 5 ∨ kindOf n = 6 ∨ kindOf n = 12 := by
  by_cases h0 : n = 0
  · simp [kindOf, h0]
  · by_cases h1 : n = 1
    · simp [kindOf, h1]
    · simp [kindOf, h0, h1]
theorem run_part {w : World} {j : Nat} {v : Value} {cs : Array Value} (h : cs[j]? = some v) : (part 3 cs j).run Try.prog w = .ok v w := by
  have h1 : (isAgg 3).run Try.prog w = .ok false w := aggB_run (c := { P := Try.prog, N := 0, os := [], S := [], w0 := w }) (w := w) aggInt
  simp only [part, Sem.run_bind, h1, Result.andThen_ok, Bool.false_eq_true, if_false, h, Sem.run_pure]
section
variable {N : Nat} {os : List (Nat × Odr)} {S : List Nat} {w0 : World} {Q : SExit → Fr → Mem → List Nat → World → Prop} {ids : List Nat} {fr : Fr} {mem : Mem} {todo : List Task}
theorem size3 : sizeB Try.prog 3 = some 1 := by kernel_rfl
theorem n_index3 {o : Oper} {x ix : Operand} (n : Int) (hn : n = 0 ∨ n = 1 ∨ n = 2) (ho : o.op = .index 45 x ix) (hd : dstOk (cx N os S w0) o.dst = true) (hx : ev fr x = some (.agg [.int .i64 5, .int .i64 6, .int .i64 12])) (hi : ev fr ix = some (.int .i64 n))
    (hk : satS (cx N os S w0) Q ⟨putF o.dst (.int .i64 (kindOf n)) fr, mem, todo⟩ ids) : satN (cx N os S w0) Q (.op o ⟨fr, mem, todo⟩) ids :=
  n_run hd fun ids' w ρ hp hI hρ => by
    have hx' := hρ x _ hx
    have hi' := hρ ix _ hi
    simp only [den, denL, Option.some.injEq] at hx' hi'
    refine ⟨_, w, .int .i64 (kindOf n), mem, ids', ?_, rfl, List.prefix_refl _, hI, satS_mono hp hk⟩
    have hsz : (sizeOf 3).run Try.prog w = .ok 1 w := sizeB_run (c := cx N os S w0) (w := w) size3
    have hpt : ∀ j : Nat, ∀ v, (#[Value.int .i64 5, .int .i64 6, .int .i64 12] : Array Value)[j]? = some v → (part 3 #[Value.int .i64 5, .int .i64 6, .int .i64 12] j).run Try.prog w = .ok v w := fun j v h => run_part h
    unfold execOp
    simp only [ho, ← hx', ← hi']
    rcases hn with rfl | rfl | rfl
    · simp [Instr.index, asIntOf, run_underlying Try.underlying45, hsz, hpt 0 _ rfl, kindOf]
    · simp [Instr.index, asIntOf, run_underlying Try.underlying45, hsz, hpt 1 _ rfl, kindOf]
    · simp [Instr.index, asIntOf, run_underlying Try.underlying45, hsz, hpt 2 _ rfl, kindOf]
end

theorem AtomHolds_ok {w : World} (x y z u v : Int) (hx : i64 x) (hy : i64 y) (hz : i64 z) (hu : i64 u) (hv : i64 v) {o : Option Addr} {n : Nat} {f : Nat → Act5} (h : ActsAt w o n f) (cap : Nat) :
    Calls Try.prog 4 #[.int .i64 x, .int .i64 y, .int .i64 z, .int .i64 u, .slice o n cap, .int .i64 v] w fun e w' => e = .returned (.bool true) ∧ Frm [] w w' := by
  have hI := Inv.nil (P := Try.prog) (N := 207) (S := []) (os := []) w
  have hlen := h.len
  generalize hL : withinF x 1 1099511627776 = L
  have bL : 1 ≤ L ∧ L ≤ 1099511627776 := hL ▸ within_le (by omega)
  generalize hV : withinF y 1 L = V
  have bV : 1 ≤ V ∧ V ≤ L := hV ▸ within_le (by omega)
  generalize hM : withinF z 1 V = M
  have bM : 1 ≤ M ∧ M ≤ V := hM ▸ within_le (by omega)
  generalize hB : withinF u 1 4611686018427387904 = nb
  have bB : 1 ≤ nb ∧ nb ≤ 4611686018427387904 := hB ▸ within_le (by omega)
  generalize hE : withinF v 0 2 = E
  have bE : 0 ≤ E ∧ E ≤ 2 := hE ▸ within_le (by omega)
  obtain ⟨g1, g2⟩ := holds_begin bL bV bM bB.1
  refine calls_sm (cx 207 [] [] w) (vals := [.int .i64 x, .int .i64 y, .int .i64 z, .int .i64 u, .raw (.slice o n cap), .int .i64 v]) mixed Try.func4 rfl rfl rfl hI rfl (st rfl ?_); conv => arg 3; whnf
  (repeat (first | (refine n_must rfl ?_; (refine st rfl ?_; conv => arg 3; whnf)) | (refine n_chk (drawF_ok (by decide +kernel)) ?_; (refine st rfl ?_; conv => arg 3; whnf)) | (refine n_same rfl ?_; (refine st rfl ?_; conv => arg 3; whnf)) | (refine n_brT ?_ ?_; (focus (simp <;> fail)); (refine st rfl ?_; conv => arg 3; whnf)) | (refine n_brF ?_ ?_; (focus (simp <;> fail)); (refine st rfl ?_; conv => arg 3; whnf))))
  refine n_sameP (.lit true) rfl rfl rfl (fun _ w1 hp1 hI1 => alive_ok w1) ?_; (refine st rfl ?_; conv => arg 3; whnf)
  (repeat (first | (refine n_must rfl ?_; (refine st rfl ?_; conv => arg 3; whnf)) | (refine n_chk (drawF_ok (by decide +kernel)) ?_; (refine st rfl ?_; conv => arg 3; whnf)) | (refine n_same rfl ?_; (refine st rfl ?_; conv => arg 3; whnf)) | (refine n_brT ?_ ?_; (focus (simp <;> fail)); (refine st rfl ?_; conv => arg 3; whnf)) | (refine n_brF ?_ ?_; (focus (simp <;> fail)); (refine st rfl ?_; conv => arg 3; whnf))))
  refine n_callN (fun y : Nat × Nat => mapRes y.1 y.2 []) 59 (fun y => .raw (pV y.1)) (fun y => pV y.1) (fun _ => True) rfl rfl rfl (fun _ => rfl) (fun w1 hI1 => New_ok w1) ?_
  rintro ⟨p, mb⟩ _ hnew
  (refine st rfl ?_; conv => arg 3; whnf)
  (repeat (first | (refine n_must rfl ?_; (refine st rfl ?_; conv => arg 3; whnf)) | (refine n_chk (drawF_ok (by decide +kernel)) ?_; (refine st rfl ?_; conv => arg 3; whnf)) | (refine n_same rfl ?_; (refine st rfl ?_; conv => arg 3; whnf)) | (refine n_must ?_ ?_; (focus (first | (simp; done) | (simp; omega))); (refine st rfl ?_; conv => arg 3; whnf)) | (refine n_brT ?_ ?_; (focus (first | (simp; done) | (simp; omega))); (refine st rfl ?_; conv => arg 3; whnf)) | (refine n_brF ?_ ?_; (focus (first | (simp; done) | (simp; omega))); (refine st rfl ?_; conv => arg 3; whnf))))
  refine n_sameP (.int .i64 L) rfl rfl rfl (fun _ w1 hp1 hI1 => hL ▸ within_ok x 1 1099511627776 hx (by omega) (by omega) (by omega) w1) ?_; (refine st rfl ?_; conv => arg 3; whnf)
  (repeat (first | (refine n_must rfl ?_; (refine st rfl ?_; conv => arg 3; whnf)) | (refine n_chk (drawF_ok (by decide +kernel)) ?_; (refine st rfl ?_; conv => arg 3; whnf)) | (refine n_same rfl ?_; (refine st rfl ?_; conv => arg 3; whnf)) | (refine n_must ?_ ?_; (focus (first | (simp; done) | (simp; omega))); (refine st rfl ?_; conv => arg 3; whnf)) | (refine n_brT ?_ ?_; (focus (first | (simp; done) | (simp; omega))); (refine st rfl ?_; conv => arg 3; whnf)) | (refine n_brF ?_ ?_; (focus (first | (simp; done) | (simp; omega))); (refine st rfl ?_; conv => arg 3; whnf))))
  refine n_sameP (.int .i64 V) rfl rfl rfl (fun _ w1 hp1 hI1 => hV ▸ within_ok y 1 L hy (by omega) (by omega) (by omega) w1) ?_; (refine st rfl ?_; conv => arg 3; whnf)
  (repeat (first | (refine n_must rfl ?_; (refine st rfl ?_; conv => arg 3; whnf)) | (refine n_chk (drawF_ok (by decide +kernel)) ?_; (refine st rfl ?_; conv => arg 3; whnf)) | (refine n_same rfl ?_; (refine st rfl ?_; conv => arg 3; whnf)) | (refine n_must ?_ ?_; (focus (first | (simp; done) | (simp; omega))); (refine st rfl ?_; conv => arg 3; whnf)) | (refine n_brT ?_ ?_; (focus (first | (simp; done) | (simp; omega))); (refine st rfl ?_; conv => arg 3; whnf)) | (refine n_brF ?_ ?_; (focus (first | (simp; done) | (simp; omega))); (refine st rfl ?_; conv => arg 3; whnf))))
  refine n_sameP (.int .i64 M) rfl rfl rfl (fun _ w1 hp1 hI1 => hM ▸ within_ok z 1 V hz (by omega) (by omega) (by omega) w1) ?_; (refine st rfl ?_; conv => arg 3; whnf)
  (repeat (first | (refine n_must rfl ?_; (refine st rfl ?_; conv => arg 3; whnf)) | (refine n_chk (drawF_ok (by decide +kernel)) ?_; (refine st rfl ?_; conv => arg 3; whnf)) | (refine n_same rfl ?_; (refine st rfl ?_; conv => arg 3; whnf)) | (refine n_must ?_ ?_; (focus (first | (simp; done) | (simp; omega))); (refine st rfl ?_; conv => arg 3; whnf)) | (refine n_brT ?_ ?_; (focus (first | (simp; done) | (simp; omega))); (refine st rfl ?_; conv => arg 3; whnf)) | (refine n_brF ?_ ?_; (focus (first | (simp; done) | (simp; omega))); (refine st rfl ?_; conv => arg 3; whnf))))
  refine n_sameP (.int .i64 nb) rfl rfl rfl (fun _ w1 hp1 hI1 => hB ▸ within_ok u 1 4611686018427387904 hu (by omega) (by omega) (by omega) w1) ?_; (refine st rfl ?_; conv => arg 3; whnf)
  (repeat (first | (refine n_must rfl ?_; (refine st rfl ?_; conv => arg 3; whnf)) | (refine n_chk (drawF_ok (by decide +kernel)) ?_; (refine st rfl ?_; conv => arg 3; whnf)) | (refine n_same rfl ?_; (refine st rfl ?_; conv => arg 3; whnf)) | (refine n_must ?_ ?_; (focus (first | (simp; done) | (simp; omega))); (refine st rfl ?_; conv => arg 3; whnf)) | (refine n_brT ?_ ?_; (focus (first | (simp; done) | (simp; omega))); (refine st rfl ?_; conv => arg 3; whnf)) | (refine n_brF ?_ ?_; (focus (first | (simp; done) | (simp; omega))); (refine st rfl ?_; conv => arg 3; whnf))))
  refine n_sameP (.int .i64 E) rfl rfl rfl (fun _ w1 hp1 hI1 => hE ▸ within_ok v 0 2 hv (by omega) (by omega) (by omega) w1) ?_; (refine st rfl ?_; conv => arg 3; whnf)
  (repeat (first | (refine n_must rfl ?_; (refine st rfl ?_; conv => arg 3; whnf)) | (refine n_chk (drawF_ok (by decide +kernel)) ?_; (refine st rfl ?_; conv => arg 3; whnf)) | (refine n_same rfl ?_; (refine st rfl ?_; conv => arg 3; whnf)) | (refine n_must ?_ ?_; (focus (first | (simp; done) | (simp; omega))); (refine st rfl ?_; conv => arg 3; whnf)) | (refine n_brT ?_ ?_; (focus (first | (simp; done) | (simp; omega))); (refine st rfl ?_; conv => arg 3; whnf)) | (refine n_brF ?_ ?_; (focus (first | (simp; done) | (simp; omega))); (refine st rfl ?_; conv => arg 3; whnf))))
  refine n_callR (Y := Nat) 0 (fun hn => mapRes p mb ([(kK, ⟨L, V, 0, hn, []⟩)])) (fun _ => ansS 0 0) (fun _ => ansV 0 0) (fun _ => True) rfl rfl (fun _ => rfl) rfl rfl rfl (fun _ w1 hp1 hI1 hR => by have h := Do_ok hR (by simp) 1 kK L V 0 kK_size ⟨by omega, by omega⟩ ⟨by omega, by omega⟩; simp only [g1] at h; exact h) ?_
  intro h0 _
  (refine st rfl ?_; conv => arg 3; whnf)
  (repeat (first | (refine n_must rfl ?_; (refine st rfl ?_; conv => arg 3; whnf)) | (refine n_chk (drawF_ok (by decide +kernel)) ?_; (refine st rfl ?_; conv => arg 3; whnf)) | (refine n_same rfl ?_; (refine st rfl ?_; conv => arg 3; whnf)) | (refine n_must ?_ ?_; (focus (first | (simp; done) | (simp; omega))); (refine st rfl ?_; conv => arg 3; whnf)) | (refine n_brT ?_ ?_; (focus (first | (simp; done) | (simp; omega))); (refine st rfl ?_; conv => arg 3; whnf)) | (refine n_brF ?_ ?_; (focus (first | (simp; done) | (simp; omega))); (refine st rfl ?_; conv => arg 3; whnf))))
  have ok1 : AllOk [(kK, ⟨L, V, 0, h0, []⟩)] := by
    intro q hq
    simp at hq; subst hq
    exact ⟨by dsimp only; omega, by dsimp only; omega, by dsimp only; omega, by dsimp only; omega, by simp, by simp [Ctr.sum]⟩
  refine n_callR (Y := Nat) 0 (fun hn => mapRes p mb ([(kK, ⟨L, V - M, M, h0, [(nb, M)]⟩)])) (fun _ => ansS nb 0) (fun _ => ansV nb 0) (fun _ => True) rfl rfl (fun _ => rfl) rfl rfl rfl (fun _ w1 hp1 hI1 hR => by have h := Do_ok hR ok1 4 kK M 1 nb kK_size ⟨by omega, by omega⟩ ⟨by omega, by omega⟩; simp only [g2] at h; exact h) ?_
  intro h1 _
  (refine st rfl ?_; conv => arg 3; whnf)
  (repeat (first | (refine n_must rfl ?_; (refine st rfl ?_; conv => arg 3; whnf)) | (refine n_chk (drawF_ok (by decide +kernel)) ?_; (refine st rfl ?_; conv => arg 3; whnf)) | (refine n_same rfl ?_; (refine st rfl ?_; conv => arg 3; whnf)) | (refine n_must ?_ ?_; (focus (first | (simp; done) | (simp; omega))); (refine st rfl ?_; conv => arg 3; whnf)) | (refine n_brT ?_ ?_; (focus (first | (simp; done) | (simp; omega))); (refine st rfl ?_; conv => arg 3; whnf)) | (refine n_brF ?_ ?_; (focus (first | (simp; done) | (simp; omega))); (refine st rfl ?_; conv => arg 3; whnf))))
  have ok2 : AllOk [(kK, ⟨L, V - M, M, h0, [(nb, M)]⟩)] := by
    intro q hq
    simp at hq; subst hq
    exact ⟨by dsimp only; omega, by dsimp only; omega, by dsimp only; omega, by dsimp only; omega, by simp; omega, by simp [Ctr.sum]⟩
  have has2 : Has [(kK, ⟨L, V - M, M, h0, [(nb, M)]⟩)] nb M := ⟨_, by simp [mget]; rfl, by simp [mget]⟩
  generalize [(kK, (⟨L, V - M, M, h0, [(nb, M)]⟩ : Ctr))] = A0 at ok2 has2
  refine n_loop (σ := Nat × All) (fun s => [(2, .int .i64 M), (3, .int .i64 nb), (4, .raw (.slice o n cap)), (5, .int .i64 E), (14, .raw (pV p)), (19, .int .i64 (s.1 : Nat))]) (fun s => [⟨59, [.res (mapRes p mb s.2)], true⟩]) (fun s => s.1 ≤ n ∧ s.1 ≤ 300 ∧ AllOk s.2 ∧ Has s.2 nb M) (fun s => 300 - s.1) (0, A0) mixed ⟨by simp, by simp, ok2, has2⟩ (fun _ _ => rfl) rfl (by (repeat (first | exact trivial | refine ⟨⟨rfl, rfl⟩, ?_⟩))) (fun s _ => ⟨by (repeat (first | exact trivial | refine ⟨⟨_, rfl⟩, ?_⟩)), by (repeat (first | exact trivial | refine ⟨⟨_, rfl⟩, ?_⟩))⟩) fun s hJ => ?_
  obtain ⟨i, A⟩ := s
  obtain ⟨hi, hi3, ok, has⟩ := hJ
  dsimp only at hi hi3 ok has ⊢
  (refine st rfl ?_; conv => arg 3; whnf)
  by_cases hlt : i < n ∧ i < 300
  · obtain ⟨l1, l2⟩ := hlt
    have ei : IntKind.i64.wrap ((i : Int) + 1) = ((i + 1 : Nat) : Int) := by rw [w64 (by omega) (by omega)]; simp
    obtain ⟨ad, rfl, hat⟩ := h.at_ l1
    have hgood := h.good i l1
    have hld : ∀ w' ad', Frm [] w w' → ad' = ad.add (i * 5) → (loadVar 29 ad').run Try.prog w' = .ok (.agg (opV (f i).k (f i).nm (f i).a (f i).b)) w' := fun w' ad' hf had => op_ld (o := none) (n := n) hat hf had
    have hlh : ∀ w' ad', Frm [] w w' → ad' = (ad.add (i * 5)).add 4 → (loadVar 3 ad').run Try.prog w' = .ok (.int .i64 (f i).h) w' := fun w' ad' hf had => load_cell aggInt (by subst had; rw [add_add]; exact hat w' hf 4 _ rfl)
    generalize f i = q at hgood hld hlh
    obtain ⟨k, nm, a, b, hh⟩ := q
    dsimp only at hgood hld hlh
    (repeat (first | (refine n_must rfl ?_; (refine st rfl ?_; conv => arg 3; whnf)) | (refine n_chk (drawF_ok (by decide +kernel)) ?_; (refine st rfl ?_; conv => arg 3; whnf)) | (refine n_same rfl ?_; (refine st rfl ?_; conv => arg 3; whnf)) | (refine n_must ?_ ?_; (focus (first | (simp; done) | (simp; omega))); (refine st rfl ?_; conv => arg 3; whnf)) | (refine n_brT ?_ ?_; (focus (first | (simp; done) | (simp; omega))); (refine st rfl ?_; conv => arg 3; whnf)) | (refine n_brF ?_ ?_; (focus (first | (simp; done) | (simp; omega))); (refine st rfl ?_; conv => arg 3; whnf))))
    refine n_ld (.agg (opS k nm a b)) rfl rfl (fun w' hf => hld w' _ hf (by simp [add_add])) ?_
    (refine st rfl ?_; conv => arg 3; whnf)
    (repeat' (first | (refine n_must rfl ?_; (refine st rfl ?_; conv => arg 3; whnf)) | (refine n_chk (drawF_ok (by decide +kernel)) ?_; (refine st rfl ?_; conv => arg 3; whnf)) | (refine n_same rfl ?_; (refine st rfl ?_; conv => arg 3; whnf)) | (refine n_must ?_ ?_; (focus (first | (simp; done) | (simp; omega))); (refine st rfl ?_; conv => arg 3; whnf)) | (refine n_brT ?_ ?_; (focus (first | (simp; done) | (simp; omega))); (refine st rfl ?_; conv => arg 3; whnf)) | (refine n_brF ?_ ?_; (focus (first | (simp; done) | (simp; omega))); (refine st rfl ?_; conv => arg 3; whnf)) | (refine n_br (fun hbr => ?_) (fun hbr => ?_) <;> simp at hbr <;> (refine st rfl ?_; conv => arg 3; whnf))))
    all_goals first
      | exact n_again ⟨(i + 1, A), ⟨by dsimp only; omega, by dsimp only; omega, ok, has⟩, by dsimp only; omega, (by (repeat (first | exact trivial | refine ⟨⟨rfl, rfl⟩, ?_⟩ | refine ⟨⟨rfl, congrArg (SV.int .i64) ei⟩, ?_⟩))), ⟨_, rfl⟩⟩
      | (refine n_ldD (.int .i64 hh) rfl rfl (fun w' hf => hlh w' _ hf (by simp)) ?_
         (refine st rfl ?_; conv => arg 3; whnf)
         (repeat (first | (refine n_must rfl ?_; (refine st rfl ?_; conv => arg 3; whnf)) | (refine n_chk (drawF_ok (by decide +kernel)) ?_; (refine st rfl ?_; conv => arg 3; whnf)) | (refine n_same rfl ?_; (refine st rfl ?_; conv => arg 3; whnf)) | (refine n_must ?_ ?_; (focus (first | (simp; done) | (simp; omega))); (refine st rfl ?_; conv => arg 3; whnf)) | (refine n_brT ?_ ?_; (focus (first | (simp; done) | (simp; omega))); (refine st rfl ?_; conv => arg 3; whnf)) | (refine n_brF ?_ ?_; (focus (first | (simp; done) | (simp; omega))); (refine st rfl ?_; conv => arg 3; whnf))))
         refine n_callR (Y := Nat) 0 (fun hn => mapRes p mb (doF A hn k nm a b hh).1) (fun hn => ansS (doF A hn k nm a b hh).2.1 (doF A hn k nm a b hh).2.2) (fun hn => ansV (doF A hn k nm a b hh).2.1 (doF A hn k nm a b hh).2.2) (fun _ => True) rfl rfl (fun _ => rfl) rfl rfl rfl (fun _ w1 hp1 hI1 hR => Do_ok hR ok k nm a b hh hgood.2.1 hgood.2.2.1 hgood.2.2.2.2) ?_
         intro hn _
         (refine st rfl ?_; conv => arg 3; whnf)
         (repeat (first | (refine n_must rfl ?_; (refine st rfl ?_; conv => arg 3; whnf)) | (refine n_chk (drawF_ok (by decide +kernel)) ?_; (refine st rfl ?_; conv => arg 3; whnf)) | (refine n_same rfl ?_; (refine st rfl ?_; conv => arg 3; whnf)) | (refine n_must ?_ ?_; (focus (first | (simp; done) | (simp; omega))); (refine st rfl ?_; conv => arg 3; whnf)) | (refine n_brT ?_ ?_; (focus (first | (simp; done) | (simp; omega))); (refine st rfl ?_; conv => arg 3; whnf)) | (refine n_brF ?_ ?_; (focus (first | (simp; done) | (simp; omega))); (refine st rfl ?_; conv => arg 3; whnf))))
         exact n_again ⟨(i + 1, (doF A hn k nm a b hh).1), ⟨by dsimp only; omega, by dsimp only; omega, doF_ok ok hn k nm a b hh, doF_keeps has (by omega)⟩, by dsimp only; omega, (by (repeat (first | exact trivial | refine ⟨⟨rfl, rfl⟩, ?_⟩ | refine ⟨⟨rfl, congrArg (SV.int .i64) ei⟩, ?_⟩))), ⟨_, rfl⟩⟩)
  · (repeat' (first | (refine n_must rfl ?_; (refine st rfl ?_; conv => arg 3; whnf)) | (refine n_chk (drawF_ok (by decide +kernel)) ?_; (refine st rfl ?_; conv => arg 3; whnf)) | (refine n_same rfl ?_; (refine st rfl ?_; conv => arg 3; whnf)) | (refine n_must ?_ ?_; (focus (first | (simp; done) | (simp; omega))); (refine st rfl ?_; conv => arg 3; whnf)) | (refine n_brT ?_ ?_; (focus (first | (simp; done) | (simp; omega))); (refine st rfl ?_; conv => arg 3; whnf)) | (refine n_brF ?_ ?_; (focus (first | (simp; done) | (simp; omega))); (refine st rfl ?_; conv => arg 3; whnf)) | (refine n_br (fun hbr => ?_) (fun hbr => ?_) <;> simp at hbr <;> (refine st rfl ?_; conv => arg 3; whnf))))
    all_goals try (exfalso; omega)
    all_goals (refine n_exit rfl ?_; (refine st rfl ?_; conv => arg 3; whnf); (repeat (first | (refine n_must rfl ?_; (refine st rfl ?_; conv => arg 3; whnf)) | (refine n_chk (drawF_ok (by decide +kernel)) ?_; (refine st rfl ?_; conv => arg 3; whnf)) | (refine n_same rfl ?_; (refine st rfl ?_; conv => arg 3; whnf)) | (refine n_brT ?_ ?_; (focus (simp <;> fail)); (refine st rfl ?_; conv => arg 3; whnf)) | (refine n_brF ?_ ?_; (focus (simp <;> fail)); (refine st rfl ?_; conv => arg 3; whnf)))))
    all_goals (
      obtain ⟨s, m1, m2⟩ := has
      have oks : s.ok := ok _ (mget_some m1)
      have o1 := oks.v0
      have o2 := oks.h0
      have o3 := oks.sum
      have o4 := oks.cap
      have hE3 : E = 0 ∨ E = 1 ∨ E = 2 := by omega
      have hK := kindOf_end E
      refine n_sameP (.tup [.int .i64 s.value, .int .i64 s.held, .int .i64 s.limit, .bool true]) rfl rfl rfl (fun _ w1 hp1 hI1 => peek_k m1 ▸ Peek_ok (hI1.res 0 rfl rfl) kK kK_size) ?_; (refine st rfl ?_; conv => arg 3; whnf)
      (repeat (first | (refine n_must rfl ?_; (refine st rfl ?_; conv => arg 3; whnf)) | (refine n_chk (drawF_ok (by decide +kernel)) ?_; (refine st rfl ?_; conv => arg 3; whnf)) | (refine n_same rfl ?_; (refine st rfl ?_; conv => arg 3; whnf)) | (refine n_must ?_ ?_; (focus (first | (simp; done) | (simp; omega))); (refine st rfl ?_; conv => arg 3; whnf)) | (refine n_brT ?_ ?_; (focus (first | (simp; done) | (simp; omega))); (refine st rfl ?_; conv => arg 3; whnf)) | (refine n_brF ?_ ?_; (focus (first | (simp; done) | (simp; omega))); (refine st rfl ?_; conv => arg 3; whnf))))
      refine n_index3 E hE3 rfl rfl rfl rfl ?_
      (refine st rfl ?_; conv => arg 3; whnf)
      (repeat (first | (refine n_must rfl ?_; (refine st rfl ?_; conv => arg 3; whnf)) | (refine n_chk (drawF_ok (by decide +kernel)) ?_; (refine st rfl ?_; conv => arg 3; whnf)) | (refine n_same rfl ?_; (refine st rfl ?_; conv => arg 3; whnf)) | (refine n_must ?_ ?_; (focus (first | (simp; done) | (simp; omega))); (refine st rfl ?_; conv => arg 3; whnf)) | (refine n_brT ?_ ?_; (focus (first | (simp; done) | (simp; omega))); (refine st rfl ?_; conv => arg 3; whnf)) | (refine n_brF ?_ ?_; (focus (first | (simp; done) | (simp; omega))); (refine st rfl ?_; conv => arg 3; whnf))))
      generalize kindOf E = K at hK
      obtain ⟨he, h2, h3, h4⟩ := holds_end m1 m2 bM.1 bB.1 hK
      have ok' := doF_ok ok 0 K kK nb 0 0
      rw [he] at ok'
      dsimp only at ok'
      generalize (s.end_ K nb).1 = s' at he h2 h3 h4 ok'
      have m1' : mget (mput A kK s') kK = some s' := by rw [mget_put, if_pos rfl]
      have m2' : mget s'.holds nb = some 0 := by rw [h4, mget_put, if_pos rfl]
      have oks' : s'.ok := ok' _ (mget_some m1')
      have p1 := oks'.v0
      have p2 := oks'.h0
      have p3 := oks'.sum
      have p4 := oks'.cap
      rcases hK with rfl | rfl | rfl
      · have he' : ∀ hn, doF A hn 5 kK nb 0 0 = (mput A kK s', M, 0) := fun hn => by rw [he]; simp
        have h3' : s'.value = s.value + 0 := by rw [h3]; simp
        have w1 : IntKind.i64.wrap (s.held - M) = s'.held := by rw [h2]; refine w64 ?_ ?_ <;> omega
        have w2 : IntKind.i64.wrap (s'.value - s.value) = 0 := by have e := h3'; rw [w64 (n := s'.value - s.value) (by omega) (by omega)]; omega
        have w3 : IntKind.i64.wrap (M * 0) = 0 := by rw [w64 (n := M * 0) (by omega) (by omega)]; omega
        have bM0 : M ≠ 0 := by omega
        refine n_callR (Y := Nat) 0 (fun hn => mapRes p mb (mput A kK s')) (fun _ => ansS M 0) (fun _ => ansV M 0) (fun _ => True) rfl rfl (fun _ => rfl) rfl rfl rfl (fun _ w1 hp1 hI1 hR => by have h := Do_ok hR ok 5 kK nb 0 0 kK_size ⟨by omega, by omega⟩ ⟨by omega, by omega⟩; simp only [he'] at h; exact h) ?_
        intro h5 _
        (refine st rfl ?_; conv => arg 3; whnf)
        (repeat (first | (refine n_must rfl ?_; (refine st rfl ?_; conv => arg 3; whnf)) | (refine n_chk (drawF_ok (by decide +kernel)) ?_; (refine st rfl ?_; conv => arg 3; whnf)) | (refine n_same rfl ?_; (refine st rfl ?_; conv => arg 3; whnf)) | (refine n_must ?_ ?_; (focus (first | (simp; done) | (simp; omega))); (refine st rfl ?_; conv => arg 3; whnf)) | (refine n_brT ?_ ?_; (focus (first | (simp; done) | (simp; omega))); (refine st rfl ?_; conv => arg 3; whnf)) | (refine n_brF ?_ ?_; (focus (first | (simp; done) | (simp; omega))); (refine st rfl ?_; conv => arg 3; whnf))))
        refine n_sameP (.tup [.int .i64 s'.value, .int .i64 s'.held, .int .i64 s'.limit, .bool true]) rfl rfl rfl (fun _ w1 hp1 hI1 => peek_k m1' ▸ Peek_ok (hI1.res 0 rfl rfl) kK kK_size) ?_; (refine st rfl ?_; conv => arg 3; whnf)
        (repeat (first | (refine n_must rfl ?_; (refine st rfl ?_; conv => arg 3; whnf)) | (refine n_chk (drawF_ok (by decide +kernel)) ?_; (refine st rfl ?_; conv => arg 3; whnf)) | (refine n_same rfl ?_; (refine st rfl ?_; conv => arg 3; whnf)) | (refine n_must ?_ ?_; (focus (first | (simp [w1, bM0]; done) | (simp [w1, bM0]; omega) | (simp only [w1, bM0]; simp; done))); (refine st rfl ?_; conv => arg 3; whnf)) | (refine n_brT ?_ ?_; (focus (first | (simp [w1, bM0]; done) | (simp [w1, bM0]; omega) | (simp only [w1, bM0]; simp; done))); (refine st rfl ?_; conv => arg 3; whnf)) | (refine n_brF ?_ ?_; (focus (first | (simp [w1, bM0]; done) | (simp [w1, bM0]; omega) | (simp only [w1, bM0]; simp; done))); (refine st rfl ?_; conv => arg 3; whnf))))
        refine n_sameP (.int .i64 0) rfl rfl rfl (fun _ w1 hp1 hI1 => by have := sign_ok 5 w1; simpa using this) ?_; (refine st rfl ?_; conv => arg 3; whnf)
        (repeat (first | (refine n_must rfl ?_; (refine st rfl ?_; conv => arg 3; whnf)) | (refine n_chk (drawF_ok (by decide +kernel)) ?_; (refine st rfl ?_; conv => arg 3; whnf)) | (refine n_same rfl ?_; (refine st rfl ?_; conv => arg 3; whnf)) | (refine n_must ?_ ?_; (focus (first | (simp [w2, w3]; done) | (simp [w2, w3]; omega) | (simp only [w2, w3]; simp; done))); (refine st rfl ?_; conv => arg 3; whnf)) | (refine n_brT ?_ ?_; (focus (first | (simp [w2, w3]; done) | (simp [w2, w3]; omega) | (simp only [w2, w3]; simp; done))); (refine st rfl ?_; conv => arg 3; whnf)) | (refine n_brF ?_ ?_; (focus (first | (simp [w2, w3]; done) | (simp [w2, w3]; omega) | (simp only [w2, w3]; simp; done))); (refine st rfl ?_; conv => arg 3; whnf))))
        refine n_loop (σ := Nat) (fun q => [(3, .int .i64 nb), (14, .raw (pV p)), (26, .int .i64 s'.value), (30, .int .i64 (q : Nat))]) (fun _ => [⟨59, [.res (mapRes p mb (mput A kK s'))], true⟩]) (fun q => q ≤ 3) (fun q => 3 - q) 0 mixed (by simp) (fun _ _ => rfl) rfl (by (repeat (first | exact trivial | refine ⟨⟨rfl, rfl⟩, ?_⟩))) (fun s _ => ⟨by (repeat (first | exact trivial | refine ⟨⟨_, rfl⟩, ?_⟩)), by (repeat (first | exact trivial | refine ⟨⟨_, rfl⟩, ?_⟩))⟩) fun q hJq => ?_
        (refine st rfl ?_; conv => arg 3; whnf)
        by_cases hq : q < 3
        · have eq1 : IntKind.i64.wrap ((q : Int) + 1) = ((q + 1 : Nat) : Int) := by rw [w64 (by omega) (by omega)]; simp
          have hov : ∀ hn, doF (mput A kK s') hn (kindOf q) kK nb 0 0 = (mput A kK s', 0, 70) := fun hn => holds_over m1' m2' bB.1 (kindOf_end q) hn
          (repeat (first | (refine n_must rfl ?_; (refine st rfl ?_; conv => arg 3; whnf)) | (refine n_chk (drawF_ok (by decide +kernel)) ?_; (refine st rfl ?_; conv => arg 3; whnf)) | (refine n_same rfl ?_; (refine st rfl ?_; conv => arg 3; whnf)) | (refine n_must ?_ ?_; (focus (first | (simp; done) | (simp; omega))); (refine st rfl ?_; conv => arg 3; whnf)) | (refine n_brT ?_ ?_; (focus (first | (simp; done) | (simp; omega))); (refine st rfl ?_; conv => arg 3; whnf)) | (refine n_brF ?_ ?_; (focus (first | (simp; done) | (simp; omega))); (refine st rfl ?_; conv => arg 3; whnf))))
          refine n_index3 (q : Int) (by omega) rfl rfl rfl rfl ?_
          (refine st rfl ?_; conv => arg 3; whnf)
          (repeat (first | (refine n_must rfl ?_; (refine st rfl ?_; conv => arg 3; whnf)) | (refine n_chk (drawF_ok (by decide +kernel)) ?_; (refine st rfl ?_; conv => arg 3; whnf)) | (refine n_same rfl ?_; (refine st rfl ?_; conv => arg 3; whnf)) | (refine n_must ?_ ?_; (focus (first | (simp; done) | (simp; omega))); (refine st rfl ?_; conv => arg 3; whnf)) | (refine n_brT ?_ ?_; (focus (first | (simp; done) | (simp; omega))); (refine st rfl ?_; conv => arg 3; whnf)) | (refine n_brF ?_ ?_; (focus (first | (simp; done) | (simp; omega))); (refine st rfl ?_; conv => arg 3; whnf))))
          refine n_callR (Y := Nat) 0 (fun hn => mapRes p mb (mput A kK s')) (fun _ => ansS 0 70) (fun _ => ansV 0 70) (fun _ => True) rfl rfl (fun _ => rfl) rfl rfl rfl (fun _ w1 hp1 hI1 hR => by have h := Do_ok hR ok' (kindOf q) kK nb 0 0 kK_size ⟨by omega, by omega⟩ ⟨by omega, by omega⟩; simp only [hov] at h; exact h) ?_
          intro h6 _
          (refine st rfl ?_; conv => arg 3; whnf)
          (repeat (first | (refine n_must rfl ?_; (refine st rfl ?_; conv => arg 3; whnf)) | (refine n_chk (drawF_ok (by decide +kernel)) ?_; (refine st rfl ?_; conv => arg 3; whnf)) | (refine n_same rfl ?_; (refine st rfl ?_; conv => arg 3; whnf)) | (refine n_must ?_ ?_; (focus (first | (simp; done) | (simp; omega))); (refine st rfl ?_; conv => arg 3; whnf)) | (refine n_brT ?_ ?_; (focus (first | (simp; done) | (simp; omega))); (refine st rfl ?_; conv => arg 3; whnf)) | (refine n_brF ?_ ?_; (focus (first | (simp; done) | (simp; omega))); (refine st rfl ?_; conv => arg 3; whnf))))
          exact n_again ⟨q + 1, by omega, by omega, (by (repeat (first | exact trivial | refine ⟨⟨rfl, rfl⟩, ?_⟩ | refine ⟨⟨rfl, congrArg (SV.int .i64) eq1⟩, ?_⟩))), ⟨_, rfl⟩⟩
        · obtain rfl : q = 3 := by omega
          (repeat (first | (refine n_must rfl ?_; (refine st rfl ?_; conv => arg 3; whnf)) | (refine n_chk (drawF_ok (by decide +kernel)) ?_; (refine st rfl ?_; conv => arg 3; whnf)) | (refine n_same rfl ?_; (refine st rfl ?_; conv => arg 3; whnf)) | (refine n_must ?_ ?_; (focus (first | (simp; done) | (simp; omega))); (refine st rfl ?_; conv => arg 3; whnf)) | (refine n_brT ?_ ?_; (focus (first | (simp; done) | (simp; omega))); (refine st rfl ?_; conv => arg 3; whnf)) | (refine n_brF ?_ ?_; (focus (first | (simp; done) | (simp; omega))); (refine st rfl ?_; conv => arg 3; whnf))))
          refine n_exit rfl ?_
          (refine st rfl ?_; conv => arg 3; whnf)
          (repeat (first | (refine n_must rfl ?_; (refine st rfl ?_; conv => arg 3; whnf)) | (refine n_chk (drawF_ok (by decide +kernel)) ?_; (refine st rfl ?_; conv => arg 3; whnf)) | (refine n_same rfl ?_; (refine st rfl ?_; conv => arg 3; whnf)) | (refine n_must ?_ ?_; (focus (first | (simp; done) | (simp; omega))); (refine st rfl ?_; conv => arg 3; whnf)) | (refine n_brT ?_ ?_; (focus (first | (simp; done) | (simp; omega))); (refine st rfl ?_; conv => arg 3; whnf)) | (refine n_brF ?_ ?_; (focus (first | (simp; done) | (simp; omega))); (refine st rfl ?_; conv => arg 3; whnf))))
          by_cases hv1 : s'.value < 1
          · have hus : ∀ hn, doF (mput A kK s') hn 4 kK 1 1 nb = (mput A kK s', 0, 60) := fun hn => by rw [holds_used m1' m2' bB.1, if_pos hv1]
            refine n_callR (Y := Nat) 0 (fun hn => mapRes p mb (mput A kK s')) (fun _ => ansS 0 60) (fun _ => ansV 0 60) (fun _ => True) rfl rfl (fun _ => rfl) rfl rfl rfl (fun _ w1 hp1 hI1 hR => by have h := Do_ok hR ok' 4 kK 1 1 nb kK_size ⟨by omega, by omega⟩ ⟨by omega, by omega⟩; simp only [hus] at h; exact h) ?_
            intro h7 _
            (refine st rfl ?_; conv => arg 3; whnf)
            (repeat (first | (refine n_must rfl ?_; (refine st rfl ?_; conv => arg 3; whnf)) | (refine n_chk (drawF_ok (by decide +kernel)) ?_; (refine st rfl ?_; conv => arg 3; whnf)) | (refine n_same rfl ?_; (refine st rfl ?_; conv => arg 3; whnf)) | (refine n_must ?_ ?_; (focus (first | (simp [hv1]; done) | (simp [hv1]; omega) | (simp only [hv1]; simp; done))); (refine st rfl ?_; conv => arg 3; whnf)) | (refine n_brT ?_ ?_; (focus (first | (simp [hv1]; done) | (simp [hv1]; omega) | (simp only [hv1]; simp; done))); (refine st rfl ?_; conv => arg 3; whnf)) | (refine n_brF ?_ ?_; (focus (first | (simp [hv1]; done) | (simp [hv1]; omega) | (simp only [hv1]; simp; done))); (refine st rfl ?_; conv => arg 3; whnf))))
            exact n_ret0 rfl rfl fun ids' w' hp hI' => ⟨rfl, hI'.frm⟩
          · have hus : ∀ hn, doF (mput A kK s') hn 4 kK 1 1 nb = (mput A kK s', 0, 1) := fun hn => by rw [holds_used m1' m2' bB.1, if_neg hv1]
            refine n_callR (Y := Nat) 0 (fun hn => mapRes p mb (mput A kK s')) (fun _ => ansS 0 1) (fun _ => ansV 0 1) (fun _ => True) rfl rfl (fun _ => rfl) rfl rfl rfl (fun _ w1 hp1 hI1 hR => by have h := Do_ok hR ok' 4 kK 1 1 nb kK_size ⟨by omega, by omega⟩ ⟨by omega, by omega⟩; simp only [hus] at h; exact h) ?_
            intro h7 _
            (refine st rfl ?_; conv => arg 3; whnf)
            (repeat (first | (refine n_must rfl ?_; (refine st rfl ?_; conv => arg 3; whnf)) | (refine n_chk (drawF_ok (by decide +kernel)) ?_; (refine st rfl ?_; conv => arg 3; whnf)) | (refine n_same rfl ?_; (refine st rfl ?_; conv => arg 3; whnf)) | (refine n_must ?_ ?_; (focus (first | (simp [hv1]; done) | (simp [hv1]; omega) | (simp only [hv1]; simp; done))); (refine st rfl ?_; conv => arg 3; whnf)) | (refine n_brT ?_ ?_; (focus (first | (simp [hv1]; done) | (simp [hv1]; omega) | (simp only [hv1]; simp; done))); (refine st rfl ?_; conv => arg 3; whnf)) | (refine n_brF ?_ ?_; (focus (first | (simp [hv1]; done) | (simp [hv1]; omega) | (simp only [hv1]; simp; done))); (refine st rfl ?_; conv => arg 3; whnf))))
            exact n_ret0 rfl rfl fun ids' w' hp hI' => ⟨rfl, hI'.frm⟩
      · have he' : ∀ hn, doF A hn 6 kK nb 0 0 = (mput A kK s', M, 0) := fun hn => by rw [he]; simp
        have h3' : s'.value = s.value + M := by rw [h3]; simp
        have w1 : IntKind.i64.wrap (s.held - M) = s'.held := by rw [h2]; refine w64 ?_ ?_ <;> omega
        have w2 : IntKind.i64.wrap (s'.value - s.value) = M := by have e := h3'; rw [w64 (n := s'.value - s.value) (by omega) (by omega)]; omega
        have w3 : IntKind.i64.wrap (M * 1) = M := by rw [w64 (n := M * 1) (by omega) (by omega)]; omega
        have bM0 : M ≠ 0 := by omega
        refine n_callR (Y := Nat) 0 (fun hn => mapRes p mb (mput A kK s')) (fun _ => ansS M 0) (fun _ => ansV M 0) (fun _ => True) rfl rfl (fun _ => rfl) rfl rfl rfl (fun _ w1 hp1 hI1 hR => by have h := Do_ok hR ok 6 kK nb 0 0 kK_size ⟨by omega, by omega⟩ ⟨by omega, by omega⟩; simp only [he'] at h; exact h) ?_
        intro h5 _
        (refine st rfl ?_; conv => arg 3; whnf)
        (repeat (first | (refine n_must rfl ?_; (refine st rfl ?_; conv => arg 3; whnf)) | (refine n_chk (drawF_ok (by decide +kernel)) ?_; (refine st rfl ?_; conv => arg 3; whnf)) | (refine n_same rfl ?_; (refine st rfl ?_; conv => arg 3; whnf)) | (refine n_must ?_ ?_; (focus (first | (simp; done) | (simp; omega))); (refine st rfl ?_; conv => arg 3; whnf)) | (refine n_brT ?_ ?_; (focus (first | (simp; done) | (simp; omega))); (refine st rfl ?_; conv => arg 3; whnf)) | (refine n_brF ?_ ?_; (focus (first | (simp; done) | (simp; omega))); (refine st rfl ?_; conv => arg 3; whnf))))
        refine n_sameP (.tup [.int .i64 s'.value, .int .i64 s'.held, .int .i64 s'.limit, .bool true]) rfl rfl rfl (fun _ w1 hp1 hI1 => peek_k m1' ▸ Peek_ok (hI1.res 0 rfl rfl) kK kK_size) ?_; (refine st rfl ?_; conv => arg 3; whnf)
        (repeat (first | (refine n_must rfl ?_; (refine st rfl ?_; conv => arg 3; whnf)) | (refine n_chk (drawF_ok (by decide +kernel)) ?_; (refine st rfl ?_; conv => arg 3; whnf)) | (refine n_same rfl ?_; (refine st rfl ?_; conv => arg 3; whnf)) | (refine n_must ?_ ?_; (focus (first | (simp [w1, bM0]; done) | (simp [w1, bM0]; omega) | (simp only [w1, bM0]; simp; done))); (refine st rfl ?_; conv => arg 3; whnf)) | (refine n_brT ?_ ?_; (focus (first | (simp [w1, bM0]; done) | (simp [w1, bM0]; omega) | (simp only [w1, bM0]; simp; done))); (refine st rfl ?_; conv => arg 3; whnf)) | (refine n_brF ?_ ?_; (focus (first | (simp [w1, bM0]; done) | (simp [w1, bM0]; omega) | (simp only [w1, bM0]; simp; done))); (refine st rfl ?_; conv => arg 3; whnf))))
        refine n_sameP (.int .i64 1) rfl rfl rfl (fun _ w1 hp1 hI1 => by have := sign_ok 6 w1; simpa using this) ?_; (refine st rfl ?_; conv => arg 3; whnf)
        (repeat (first | (refine n_must rfl ?_; (refine st rfl ?_; conv => arg 3; whnf)) | (refine n_chk (drawF_ok (by decide +kernel)) ?_; (refine st rfl ?_; conv => arg 3; whnf)) | (refine n_same rfl ?_; (refine st rfl ?_; conv => arg 3; whnf)) | (refine n_must ?_ ?_; (focus (first | (simp [w2, w3]; done) | (simp [w2, w3]; omega) | (simp only [w2, w3]; simp; done))); (refine st rfl ?_; conv => arg 3; whnf)) | (refine n_brT ?_ ?_; (focus (first | (simp [w2, w3]; done) | (simp [w2, w3]; omega) | (simp only [w2, w3]; simp; done))); (refine st rfl ?_; conv => arg 3; whnf)) | (refine n_brF ?_ ?_; (focus (first | (simp [w2, w3]; done) | (simp [w2, w3]; omega) | (simp only [w2, w3]; simp; done))); (refine st rfl ?_; conv => arg 3; whnf))))
        refine n_loop (σ := Nat) (fun q => [(3, .int .i64 nb), (14, .raw (pV p)), (26, .int .i64 s'.value), (30, .int .i64 (q : Nat))]) (fun _ => [⟨59, [.res (mapRes p mb (mput A kK s'))], true⟩]) (fun q => q ≤ 3) (fun q => 3 - q) 0 mixed (by simp) (fun _ _ => rfl) rfl (by (repeat (first | exact trivial | refine ⟨⟨rfl, rfl⟩, ?_⟩))) (fun s _ => ⟨by (repeat (first | exact trivial | refine ⟨⟨_, rfl⟩, ?_⟩)), by (repeat (first | exact trivial | refine ⟨⟨_, rfl⟩, ?_⟩))⟩) fun q hJq => ?_
        (refine st rfl ?_; conv => arg 3; whnf)
        by_cases hq : q < 3
        · have eq1 : IntKind.i64.wrap ((q : Int) + 1) = ((q + 1 : Nat) : Int) := by rw [w64 (by omega) (by omega)]; simp
          have hov : ∀ hn, doF (mput A kK s') hn (kindOf q) kK nb 0 0 = (mput A kK s', 0, 70) := fun hn => holds_over m1' m2' bB.1 (kindOf_end q) hn
          (repeat (first | (refine n_must rfl ?_; (refine st rfl ?_; conv => arg 3; whnf)) | (refine n_chk (drawF_ok (by decide +kernel)) ?_; (refine st rfl ?_; conv => arg 3; whnf)) | (refine n_same rfl ?_; (refine st rfl ?_; conv => arg 3; whnf)) | (refine n_must ?_ ?_; (focus (first | (simp; done) | (simp; omega))); (refine st rfl ?_; conv => arg 3; whnf)) | (refine n_brT ?_ ?_; (focus (first | (simp; done) | (simp; omega))); (refine st rfl ?_; conv => arg 3; whnf)) | (refine n_brF ?_ ?_; (focus (first | (simp; done) | (simp; omega))); (refine st rfl ?_; conv => arg 3; whnf))))
          refine n_index3 (q : Int) (by omega) rfl rfl rfl rfl ?_
          (refine st rfl ?_; conv => arg 3; whnf)
          (repeat (first | (refine n_must rfl ?_; (refine st rfl ?_; conv => arg 3; whnf)) | (refine n_chk (drawF_ok (by decide +kernel)) ?_; (refine st rfl ?_; conv => arg 3; whnf)) | (refine n_same rfl ?_; (refine st rfl ?_; conv => arg 3; whnf)) | (refine n_must ?_ ?_; (focus (first | (simp; done) | (simp; omega))); (refine st rfl ?_; conv => arg 3; whnf)) | (refine n_brT ?_ ?_; (focus (first | (simp; done) | (simp; omega))); (refine st rfl ?_; conv => arg 3; whnf)) | (refine n_brF ?_ ?_; (focus (first | (simp; done) | (simp; omega))); (refine st rfl ?_; conv => arg 3; whnf))))
          refine n_callR (Y := Nat) 0 (fun hn => mapRes p mb (mput A kK s')) (fun _ => ansS 0 70) (fun _ => ansV 0 70) (fun _ => True) rfl rfl (fun _ => rfl) rfl rfl rfl (fun _ w1 hp1 hI1 hR => by have h := Do_ok hR ok' (kindOf q) kK nb 0 0 kK_size ⟨by omega, by omega⟩ ⟨by omega, by omega⟩; simp only [hov] at h; exact h) ?_
          intro h6 _
          (refine st rfl ?_; conv => arg 3; whnf)
          (repeat (first | (refine n_must rfl ?_; (refine st rfl ?_; conv => arg 3; whnf)) | (refine n_chk (drawF_ok (by decide +kernel)) ?_; (refine st rfl ?_; conv => arg 3; whnf)) | (refine n_same rfl ?_; (refine st rfl ?_; conv => arg 3; whnf)) | (refine n_must ?_ ?_; (focus (first | (simp; done) | (simp; omega))); (refine st rfl ?_; conv => arg 3; whnf)) | (refine n_brT ?_ ?_; (focus (first | (simp; done) | (simp; omega))); (refine st rfl ?_; conv => arg 3; whnf)) | (refine n_brF ?_ ?_; (focus (first | (simp; done) | (simp; omega))); (refine st rfl ?_; conv => arg 3; whnf))))
          exact n_again ⟨q + 1, by omega, by omega, (by (repeat (first | exact trivial | refine ⟨⟨rfl, rfl⟩, ?_⟩ | refine ⟨⟨rfl, congrArg (SV.int .i64) eq1⟩, ?_⟩))), ⟨_, rfl⟩⟩
        · obtain rfl : q = 3 := by omega
          (repeat (first | (refine n_must rfl ?_; (refine st rfl ?_; conv => arg 3; whnf)) | (refine n_chk (drawF_ok (by decide +kernel)) ?_; (refine st rfl ?_; conv => arg 3; whnf)) | (refine n_same rfl ?_; (refine st rfl ?_; conv => arg 3; whnf)) | (refine n_must ?_ ?_; (focus (first | (simp; done) | (simp; omega))); (refine st rfl ?_; conv => arg 3; whnf)) | (refine n_brT ?_ ?_; (focus (first | (simp; done) | (simp; omega))); (refine st rfl ?_; conv => arg 3; whnf)) | (refine n_brF ?_ ?_; (focus (first | (simp; done) | (simp; omega))); (refine st rfl ?_; conv => arg 3; whnf))))
          refine n_exit rfl ?_
          (refine st rfl ?_; conv => arg 3; whnf)
          (repeat (first | (refine n_must rfl ?_; (refine st rfl ?_; conv => arg 3; whnf)) | (refine n_chk (drawF_ok (by decide +kernel)) ?_; (refine st rfl ?_; conv => arg 3; whnf)) | (refine n_same rfl ?_; (refine st rfl ?_; conv => arg 3; whnf)) | (refine n_must ?_ ?_; (focus (first | (simp; done) | (simp; omega))); (refine st rfl ?_; conv => arg 3; whnf)) | (refine n_brT ?_ ?_; (focus (first | (simp; done) | (simp; omega))); (refine st rfl ?_; conv => arg 3; whnf)) | (refine n_brF ?_ ?_; (focus (first | (simp; done) | (simp; omega))); (refine st rfl ?_; conv => arg 3; whnf))))
          by_cases hv1 : s'.value < 1
          · have hus : ∀ hn, doF (mput A kK s') hn 4 kK 1 1 nb = (mput A kK s', 0, 60) := fun hn => by rw [holds_used m1' m2' bB.1, if_pos hv1]
            refine n_callR (Y := Nat) 0 (fun hn => mapRes p mb (mput A kK s')) (fun _ => ansS 0 60) (fun _ => ansV 0 60) (fun _ => True) rfl rfl (fun _ => rfl) rfl rfl rfl (fun _ w1 hp1 hI1 hR => by have h := Do_ok hR ok' 4 kK 1 1 nb kK_size ⟨by omega, by omega⟩ ⟨by omega, by omega⟩; simp only [hus] at h; exact h) ?_
            intro h7 _
            (refine st rfl ?_; conv => arg 3; whnf)
            (repeat (first | (refine n_must rfl ?_; (refine st rfl ?_; conv => arg 3; whnf)) | (refine n_chk (drawF_ok (by decide +kernel)) ?_; (refine st rfl ?_; conv => arg 3; whnf)) | (refine n_same rfl ?_; (refine st rfl ?_; conv => arg 3; whnf)) | (refine n_must ?_ ?_; (focus (first | (simp [hv1]; done) | (simp [hv1]; omega) | (simp only [hv1]; simp; done))); (refine st rfl ?_; conv => arg 3; whnf)) | (refine n_brT ?_ ?_; (focus (first | (simp [hv1]; done) | (simp [hv1]; omega) | (simp only [hv1]; simp; done))); (refine st rfl ?_; conv => arg 3; whnf)) | (refine n_brF ?_ ?_; (focus (first | (simp [hv1]; done) | (simp [hv1]; omega) | (simp only [hv1]; simp; done))); (refine st rfl ?_; conv => arg 3; whnf))))
            exact n_ret0 rfl rfl fun ids' w' hp hI' => ⟨rfl, hI'.frm⟩
          · have hus : ∀ hn, doF (mput A kK s') hn 4 kK 1 1 nb = (mput A kK s', 0, 1) := fun hn => by rw [holds_used m1' m2' bB.1, if_neg hv1]
            refine n_callR (Y := Nat) 0 (fun hn => mapRes p mb (mput A kK s')) (fun _ => ansS 0 1) (fun _ => ansV 0 1) (fun _ => True) rfl rfl (fun _ => rfl) rfl rfl rfl (fun _ w1 hp1 hI1 hR => by have h := Do_ok hR ok' 4 kK 1 1 nb kK_size ⟨by omega, by omega⟩ ⟨by omega, by omega⟩; simp only [hus] at h; exact h) ?_
            intro h7 _
            (refine st rfl ?_; conv => arg 3; whnf)
            (repeat (first | (refine n_must rfl ?_; (refine st rfl ?_; conv => arg 3; whnf)) | (refine n_chk (drawF_ok (by decide +kernel)) ?_; (refine st rfl ?_; conv => arg 3; whnf)) | (refine n_same rfl ?_; (refine st rfl ?_; conv => arg 3; whnf)) | (refine n_must ?_ ?_; (focus (first | (simp [hv1]; done) | (simp [hv1]; omega) | (simp only [hv1]; simp; done))); (refine st rfl ?_; conv => arg 3; whnf)) | (refine n_brT ?_ ?_; (focus (first | (simp [hv1]; done) | (simp [hv1]; omega) | (simp only [hv1]; simp; done))); (refine st rfl ?_; conv => arg 3; whnf)) | (refine n_brF ?_ ?_; (focus (first | (simp [hv1]; done) | (simp [hv1]; omega) | (simp only [hv1]; simp; done))); (refine st rfl ?_; conv => arg 3; whnf))))
            exact n_ret0 rfl rfl fun ids' w' hp hI' => ⟨rfl, hI'.frm⟩
      · have he' : ∀ hn, doF A hn 12 kK nb 0 0 = (mput A kK s', 0, 0) := fun hn => by rw [he]; simp
        have h3' : s'.value = s.value + M := by rw [h3]; simp
        have w1 : IntKind.i64.wrap (s.held - M) = s'.held := by rw [h2]; refine w64 ?_ ?_ <;> omega
        have w2 : IntKind.i64.wrap (s'.value - s.value) = M := by have e := h3'; rw [w64 (n := s'.value - s.value) (by omega) (by omega)]; omega
        have w3 : IntKind.i64.wrap (M * 1) = M := by rw [w64 (n := M * 1) (by omega) (by omega)]; omega
        have bM0 : M ≠ 0 := by omega
        refine n_callR (Y := Nat) 0 (fun hn => mapRes p mb (mput A kK s')) (fun _ => ansS 0 0) (fun _ => ansV 0 0) (fun _ => True) rfl rfl (fun _ => rfl) rfl rfl rfl (fun _ w1 hp1 hI1 hR => by have h := Do_ok hR ok 12 kK nb 0 0 kK_size ⟨by omega, by omega⟩ ⟨by omega, by omega⟩; simp only [he'] at h; exact h) ?_
        intro h5 _
        (refine st rfl ?_; conv => arg 3; whnf)
        (repeat (first | (refine n_must rfl ?_; (refine st rfl ?_; conv => arg 3; whnf)) | (refine n_chk (drawF_ok (by decide +kernel)) ?_; (refine st rfl ?_; conv => arg 3; whnf)) | (refine n_same rfl ?_; (refine st rfl ?_; conv => arg 3; whnf)) | (refine n_must ?_ ?_; (focus (first | (simp; done) | (simp; omega))); (refine st rfl ?_; conv => arg 3; whnf)) | (refine n_brT ?_ ?_; (focus (first | (simp; done) | (simp; omega))); (refine st rfl ?_; conv => arg 3; whnf)) | (refine n_brF ?_ ?_; (focus (first | (simp; done) | (simp; omega))); (refine st rfl ?_; conv => arg 3; whnf))))
        refine n_sameP (.tup [.int .i64 s'.value, .int .i64 s'.held, .int .i64 s'.limit, .bool true]) rfl rfl rfl (fun _ w1 hp1 hI1 => peek_k m1' ▸ Peek_ok (hI1.res 0 rfl rfl) kK kK_size) ?_; (refine st rfl ?_; conv => arg 3; whnf)
        (repeat (first | (refine n_must rfl ?_; (refine st rfl ?_; conv => arg 3; whnf)) | (refine n_chk (drawF_ok (by decide +kernel)) ?_; (refine st rfl ?_; conv => arg 3; whnf)) | (refine n_same rfl ?_; (refine st rfl ?_; conv => arg 3; whnf)) | (refine n_must ?_ ?_; (focus (first | (simp [w1, bM0]; done) | (simp [w1, bM0]; omega) | (simp only [w1, bM0]; simp; done))); (refine st rfl ?_; conv => arg 3; whnf)) | (refine n_brT ?_ ?_; (focus (first | (simp [w1, bM0]; done) | (simp [w1, bM0]; omega) | (simp only [w1, bM0]; simp; done))); (refine st rfl ?_; conv => arg 3; whnf)) | (refine n_brF ?_ ?_; (focus (first | (simp [w1, bM0]; done) | (simp [w1, bM0]; omega) | (simp only [w1, bM0]; simp; done))); (refine st rfl ?_; conv => arg 3; whnf))))
        refine n_sameP (.int .i64 1) rfl rfl rfl (fun _ w1 hp1 hI1 => by have := sign_ok 12 w1; simpa using this) ?_; (refine st rfl ?_; conv => arg 3; whnf)
        (repeat (first | (refine n_must rfl ?_; (refine st rfl ?_; conv => arg 3; whnf)) | (refine n_chk (drawF_ok (by decide +kernel)) ?_; (refine st rfl ?_; conv => arg 3; whnf)) | (refine n_same rfl ?_; (refine st rfl ?_; conv => arg 3; whnf)) | (refine n_must ?_ ?_; (focus (first | (simp [w2, w3]; done) | (simp [w2, w3]; omega) | (simp only [w2, w3]; simp; done))); (refine st rfl ?_; conv => arg 3; whnf)) | (refine n_brT ?_ ?_; (focus (first | (simp [w2, w3]; done) | (simp [w2, w3]; omega) | (simp only [w2, w3]; simp; done))); (refine st rfl ?_; conv => arg 3; whnf)) | (refine n_brF ?_ ?_; (focus (first | (simp [w2, w3]; done) | (simp [w2, w3]; omega) | (simp only [w2, w3]; simp; done))); (refine st rfl ?_; conv => arg 3; whnf))))
        refine n_loop (σ := Nat) (fun q => [(3, .int .i64 nb), (14, .raw (pV p)), (26, .int .i64 s'.value), (30, .int .i64 (q : Nat))]) (fun _ => [⟨59, [.res (mapRes p mb (mput A kK s'))], true⟩]) (fun q => q ≤ 3) (fun q => 3 - q) 0 mixed (by simp) (fun _ _ => rfl) rfl (by (repeat (first | exact trivial | refine ⟨⟨rfl, rfl⟩, ?_⟩))) (fun s _ => ⟨by (repeat (first | exact trivial | refine ⟨⟨_, rfl⟩, ?_⟩)), by (repeat (first | exact trivial | refine ⟨⟨_, rfl⟩, ?_⟩))⟩) fun q hJq => ?_
        (refine st rfl ?_; conv => arg 3; whnf)
        by_cases hq : q < 3
        · have eq1 : IntKind.i64.wrap ((q : Int) + 1) = ((q + 1 : Nat) : Int) := by rw [w64 (by omega) (by omega)]; simp
          have hov : ∀ hn, doF (mput A kK s') hn (kindOf q) kK nb 0 0 = (mput A kK s', 0, 70) := fun hn => holds_over m1' m2' bB.1 (kindOf_end q) hn
          (repeat (first | (refine n_must rfl ?_; (refine st rfl ?_; conv => arg 3; whnf)) | (refine n_chk (drawF_ok (by decide +kernel)) ?_; (refine st rfl ?_; conv => arg 3; whnf)) | (refine n_same rfl ?_; (refine st rfl ?_; conv => arg 3; whnf)) | (refine n_must ?_ ?_; (focus (first | (simp; done) | (simp; omega))); (refine st rfl ?_; conv => arg 3; whnf)) | (refine n_brT ?_ ?_; (focus (first | (simp; done) | (simp; omega))); (refine st rfl ?_; conv => arg 3; whnf)) | (refine n_brF ?_ ?_; (focus (first | (simp; done) | (simp; omega))); (refine st rfl ?_; conv => arg 3; whnf))))
          refine n_index3 (q : Int) (by omega) rfl rfl rfl rfl ?_
          (refine st rfl ?_; conv => arg 3; whnf)
          (repeat (first | (refine n_must rfl ?_; (refine st rfl ?_; conv => arg 3; whnf)) | (refine n_chk (drawF_ok (by decide +kernel)) ?_; (refine st rfl ?_; conv => arg 3; whnf)) | (refine n_same rfl ?_; (refine st rfl ?_; conv => arg 3; whnf)) | (refine n_must ?_ ?_; (focus (first | (simp; done) | (simp; omega))); (refine st rfl ?_; conv => arg 3; whnf)) | (refine n_brT ?_ ?_; (focus (first | (simp; done) | (simp; omega))); (refine st rfl ?_; conv => arg 3; whnf)) | (refine n_brF ?_ ?_; (focus (first | (simp; done) | (simp; omega))); (refine st rfl ?_; conv => arg 3; whnf))))
          refine n_callR (Y := Nat) 0 (fun hn => mapRes p mb (mput A kK s')) (fun _ => ansS 0 70) (fun _ => ansV 0 70) (fun _ => True) rfl rfl (fun _ => rfl) rfl rfl rfl (fun _ w1 hp1 hI1 hR => by have h := Do_ok hR ok' (kindOf q) kK nb 0 0 kK_size ⟨by omega, by omega⟩ ⟨by omega, by omega⟩; simp only [hov] at h; exact h) ?_
          intro h6 _
          (refine st rfl ?_; conv => arg 3; whnf)
          (repeat (first | (refine n_must rfl ?_; (refine st rfl ?_; conv => arg 3; whnf)) | (refine n_chk (drawF_ok (by decide +kernel)) ?_; (refine st rfl ?_; conv => arg 3; whnf)) | (refine n_same rfl ?_; (refine st rfl ?_; conv => arg 3; whnf)) | (refine n_must ?_ ?_; (focus (first | (simp; done) | (simp; omega))); (refine st rfl ?_; conv => arg 3; whnf)) | (refine n_brT ?_ ?_; (focus (first | (simp; done) | (simp; omega))); (refine st rfl ?_; conv => arg 3; whnf)) | (refine n_brF ?_ ?_; (focus (first | (simp; done) | (simp; omega))); (refine st rfl ?_; conv => arg 3; whnf))))
          exact n_again ⟨q + 1, by omega, by omega, (by (repeat (first | exact trivial | refine ⟨⟨rfl, rfl⟩, ?_⟩ | refine ⟨⟨rfl, congrArg (SV.int .i64) eq1⟩, ?_⟩))), ⟨_, rfl⟩⟩
        · obtain rfl : q = 3 := by omega
          (repeat (first | (refine n_must rfl ?_; (refine st rfl ?_; conv => arg 3; whnf)) | (refine n_chk (drawF_ok (by decide +kernel)) ?_; (refine st rfl ?_; conv => arg 3; whnf)) | (refine n_same rfl ?_; (refine st rfl ?_; conv => arg 3; whnf)) | (refine n_must ?_ ?_; (focus (first | (simp; done) | (simp; omega))); (refine st rfl ?_; conv => arg 3; whnf)) | (refine n_brT ?_ ?_; (focus (first | (simp; done) | (simp; omega))); (refine st rfl ?_; conv => arg 3; whnf)) | (refine n_brF ?_ ?_; (focus (first | (simp; done) | (simp; omega))); (refine st rfl ?_; conv => arg 3; whnf))))
          refine n_exit rfl ?_
          (refine st rfl ?_; conv => arg 3; whnf)
          (repeat (first | (refine n_must rfl ?_; (refine st rfl ?_; conv => arg 3; whnf)) | (refine n_chk (drawF_ok (by decide +kernel)) ?_; (refine st rfl ?_; conv => arg 3; whnf)) | (refine n_same rfl ?_; (refine st rfl ?_; conv => arg 3; whnf)) | (refine n_must ?_ ?_; (focus (first | (simp; done) | (simp; omega))); (refine st rfl ?_; conv => arg 3; whnf)) | (refine n_brT ?_ ?_; (focus (first | (simp; done) | (simp; omega))); (refine st rfl ?_; conv => arg 3; whnf)) | (refine n_brF ?_ ?_; (focus (first | (simp; done) | (simp; omega))); (refine st rfl ?_; conv => arg 3; whnf))))
          by_cases hv1 : s'.value < 1
          · have hus : ∀ hn, doF (mput A kK s') hn 4 kK 1 1 nb = (mput A kK s', 0, 60) := fun hn => by rw [holds_used m1' m2' bB.1, if_pos hv1]
            refine n_callR (Y := Nat) 0 (fun hn => mapRes p mb (mput A kK s')) (fun _ => ansS 0 60) (fun _ => ansV 0 60) (fun _ => True) rfl rfl (fun _ => rfl) rfl rfl rfl (fun _ w1 hp1 hI1 hR => by have h := Do_ok hR ok' 4 kK 1 1 nb kK_size ⟨by omega, by omega⟩ ⟨by omega, by omega⟩; simp only [hus] at h; exact h) ?_
            intro h7 _
            (refine st rfl ?_; conv => arg 3; whnf)
            (repeat (first | (refine n_must rfl ?_; (refine st rfl ?_; conv => arg 3; whnf)) | (refine n_chk (drawF_ok (by decide +kernel)) ?_; (refine st rfl ?_; conv => arg 3; whnf)) | (refine n_same rfl ?_; (refine st rfl ?_; conv => arg 3; whnf)) | (refine n_must ?_ ?_; (focus (first | (simp [hv1]; done) | (simp [hv1]; omega) | (simp only [hv1]; simp; done))); (refine st rfl ?_; conv => arg 3; whnf)) | (refine n_brT ?_ ?_; (focus (first | (simp [hv1]; done) | (simp [hv1]; omega) | (simp only [hv1]; simp; done))); (refine st rfl ?_; conv => arg 3; whnf)) | (refine n_brF ?_ ?_; (focus (first | (simp [hv1]; done) | (simp [hv1]; omega) | (simp only [hv1]; simp; done))); (refine st rfl ?_; conv => arg 3; whnf))))
            exact n_ret0 rfl rfl fun ids' w' hp hI' => ⟨rfl, hI'.frm⟩
          · have hus : ∀ hn, doF (mput A kK s') hn 4 kK 1 1 nb = (mput A kK s', 0, 1) := fun hn => by rw [holds_used m1' m2' bB.1, if_neg hv1]
            refine n_callR (Y := Nat) 0 (fun hn => mapRes p mb (mput A kK s')) (fun _ => ansS 0 1) (fun _ => ansV 0 1) (fun _ => True) rfl rfl (fun _ => rfl) rfl rfl rfl (fun _ w1 hp1 hI1 hR => by have h := Do_ok hR ok' 4 kK 1 1 nb kK_size ⟨by omega, by omega⟩ ⟨by omega, by omega⟩; simp only [hus] at h; exact h) ?_
            intro h7 _
            (refine st rfl ?_; conv => arg 3; whnf)
            (repeat (first | (refine n_must rfl ?_; (refine st rfl ?_; conv => arg 3; whnf)) | (refine n_chk (drawF_ok (by decide +kernel)) ?_; (refine st rfl ?_; conv => arg 3; whnf)) | (refine n_same rfl ?_; (refine st rfl ?_; conv => arg 3; whnf)) | (refine n_must ?_ ?_; (focus (first | (simp [hv1]; done) | (simp [hv1]; omega) | (simp only [hv1]; simp; done))); (refine st rfl ?_; conv => arg 3; whnf)) | (refine n_brT ?_ ?_; (focus (first | (simp [hv1]; done) | (simp [hv1]; omega) | (simp only [hv1]; simp; done))); (refine st rfl ?_; conv => arg 3; whnf)) | (refine n_brF ?_ ?_; (focus (first | (simp [hv1]; done) | (simp [hv1]; omega) | (simp only [hv1]; simp; done))); (refine st rfl ?_; conv => arg 3; whnf))))
            exact n_ret0 rfl rfl fun ids' w' hp hI' => ⟨rfl, hI'.frm⟩
      )
end Go.Proofs.Yteapjjkgbnnipaa
