/- Chapter 16's law: AtomSound. -/
import Derived.Test.YteapjjkgbnnipaaAtJ
set_option maxRecDepth 100000
set_option linter.unusedSimpArgs false
set_option linter.unusedVariables false
set_option maxHeartbeats 4000000
namespace Go.Proofs.Yteapjjkgbnnipaa
open Go.RowKit

theorem aggInt : aggB Try.prog 3 = some false := by kernel_rfl
theorem aggOp : aggB Try.prog 29 = some true := by kernel_rfl
theorem sizeOp : sizeB Try.prog 29 = some 4 := by kernel_rfl
theorem op_ld {w w' : World} {o : Option Addr} {n : Nat} {f : Nat → Act5} {i : Nat} {a ad : Addr} (hat : ∀ w', Frm [] w w' → ∀ j u, (f i).cells[j]? = some u → w'.cell? (a.add (i * 5 + j)) = some u) (hf : Frm [] w w') (had : ad = a.add (i * 5)) : (loadVar 29 ad).run Try.prog w' = .ok (.agg (opV (f i).k (f i).nm (f i).a (f i).b)) w' := by
  subst had
  refine load_row (l := [.int .i64 (f i).k, .string (f i).nm, .int .i64 (f i).a, .int .i64 (f i).b]) aggOp (by simpa using sizeOp) fun j u hu => ?_
  rw [add_add]
  refine hat w' hf j u ?_
  match j, hu with
  | 0, hu => exact hu
  | 1, hu => exact hu
  | 2, hu => exact hu
  | 3, hu => exact hu
  | j + 4, hu => simp at hu

theorem same_at {w : World} {oa ob : Option Addr} {ca cb n : Nat} {L L' : List Look} (hLL : L' = L) (hn : L.length = n) (hL : n ≤ 300) (ha : (rowRes 39 4 oa n ca (looksC L)).R w) (hb : (rowRes 39 4 ob n cb (looksC L')).R w)
    (hla : ∀ x ∈ (rowRes 39 4 oa n ca (looksC L)).fp, x < w.heap.size) (hlb : ∀ x ∈ (rowRes 39 4 ob n cb (looksC L')).fp, x < w.heap.size) (hap : ∀ x ∈ (rowRes 39 4 oa n ca (looksC L)).fp, x ∉ (rowRes 39 4 ob n cb (looksC L')).fp) :
    Calls Try.prog 15 #[.slice oa n ca, .slice ob n cb] w fun e w' => e = .returned (.bool true) ∧ Frm [] w w' := by
  subst hLL
  subst hn
  exact same_ok hL ha hb hla hlb hap
theorem str_ne {s t : ByteArray} (h : s ≠ t) : (s.toList == t.toList) = false := by
  refine beq_eq_false_iff_ne.2 fun e => h ?_
  rw [ByteArray.toList_eq, ByteArray.toList_eq] at e
  exact ByteArray.ext (Array.ext' e)

theorem AtomSound_ok {w : World} {o : Option Addr} {n : Nat} {f : Nat → Act5} (h : ActsAt w o n f) (cap : Nat) :
    Calls Try.prog 3 #[.slice o n cap] w fun e w' => e = .returned (.bool true) ∧ Frm [] w w' := by
  have hI := Inv.nil (P := Try.prog) (N := 134) (S := []) (os := []) w
  have hlen := h.len
  refine calls_sm (cx 134 [] [] w) (vals := [.raw (.slice o n cap)]) mixed Try.func3 rfl rfl rfl hI rfl (st rfl ?_); conv => arg 3; whnf
  (repeat (first | (refine n_must rfl ?_; (refine st rfl ?_; conv => arg 3; whnf)) | (refine n_chk (drawF_ok (by decide +kernel)) ?_; (refine st rfl ?_; conv => arg 3; whnf)) | (refine n_same rfl ?_; (refine st rfl ?_; conv => arg 3; whnf)) | (refine n_brT ?_ ?_; (focus (simp <;> fail)); (refine st rfl ?_; conv => arg 3; whnf)) | (refine n_brF ?_ ?_; (focus (simp <;> fail)); (refine st rfl ?_; conv => arg 3; whnf))))
  refine n_sameP (.lit true) rfl rfl rfl (fun _ w1 hp1 hI1 => alive_ok w1) ?_; (refine st rfl ?_; conv => arg 3; whnf)
  (repeat (first | (refine n_must rfl ?_; (refine st rfl ?_; conv => arg 3; whnf)) | (refine n_chk (drawF_ok (by decide +kernel)) ?_; (refine st rfl ?_; conv => arg 3; whnf)) | (refine n_same rfl ?_; (refine st rfl ?_; conv => arg 3; whnf)) | (refine n_brT ?_ ?_; (focus (simp <;> fail)); (refine st rfl ?_; conv => arg 3; whnf)) | (refine n_brF ?_ ?_; (focus (simp <;> fail)); (refine st rfl ?_; conv => arg 3; whnf))))
  refine n_callN (fun y : Nat × Nat => mapRes y.1 y.2 []) 59 (fun y => .raw (pV y.1)) (fun y => pV y.1) (fun _ => True) rfl rfl rfl (fun _ => rfl) (fun w1 hI1 => New_ok w1) ?_
  rintro ⟨p, mb⟩ _ hnew
  (refine st rfl ?_; conv => arg 3; whnf)
  (repeat (first | (refine n_must rfl ?_; (refine st rfl ?_; conv => arg 3; whnf)) | (refine n_chk (drawF_ok (by decide +kernel)) ?_; (refine st rfl ?_; conv => arg 3; whnf)) | (refine n_same rfl ?_; (refine st rfl ?_; conv => arg 3; whnf)) | (refine n_must ?_ ?_; (focus (first | (simp; done) | (simp; omega))); (refine st rfl ?_; conv => arg 3; whnf)) | (refine n_brT ?_ ?_; (focus (first | (simp; done) | (simp; omega))); (refine st rfl ?_; conv => arg 3; whnf)) | (refine n_brF ?_ ?_; (focus (first | (simp; done) | (simp; omega))); (refine st rfl ?_; conv => arg 3; whnf))))
  refine n_callN (fun y : Option Addr × Nat => rowRes 9 1 y.1 (min n 300) y.2 (strs (namesOf f (min n 300)))) 9 (fun y => .raw (.slice y.1 (min n 300) y.2)) (fun y => .slice y.1 (min n 300) y.2) (fun y => 0 < min n 300 → ∃ g, y.1 = some ⟨g, 0, none⟩) rfl rfl rfl (fun _ => rfl) (fun w1 hI1 => (spoken_ok (h.frm hI1.frm) cap).mono fun e w' ⟨y, he, _, hf⟩ => ⟨y, he, fun h0 => rowRes_some hf.2.1 h0, hf⟩) ?_
  rintro ⟨on, cn⟩ hon hnn
  dsimp only at hon
  (refine st rfl ?_; conv => arg 3; whnf)
  (repeat (first | (refine n_must rfl ?_; (refine st rfl ?_; conv => arg 3; whnf)) | (refine n_chk (drawF_ok (by decide +kernel)) ?_; (refine st rfl ?_; conv => arg 3; whnf)) | (refine n_same rfl ?_; (refine st rfl ?_; conv => arg 3; whnf)) | (refine n_must ?_ ?_; (focus (first | (simp; done) | (simp; omega))); (refine st rfl ?_; conv => arg 3; whnf)) | (refine n_brT ?_ ?_; (focus (first | (simp; done) | (simp; omega))); (refine st rfl ?_; conv => arg 3; whnf)) | (refine n_brF ?_ ?_; (focus (first | (simp; done) | (simp; omega))); (refine st rfl ?_; conv => arg 3; whnf))))
  have hns : ∀ nm ∈ namesOf f (min n 300), nm.size ≤ maxLen := by
    intro nm hnm
    obtain ⟨i, hi, rfl⟩ := List.mem_map.1 hnm
    exact (h.good i (by simp at hi; omega)).2.1
  have hnl : (namesOf f (min n 300)).length = min n 300 := by simp [namesOf]
  have hm3 : min n 300 ≤ 300 := by omega
  generalize hNs : namesOf f (min n 300) = Ns at *
  generalize hm : min n 300 = m at *
  refine n_loop (σ := Nat × All) (fun s => [(0, .raw (.slice o n cap)), (4, .raw (pV p)), (5, .raw (.slice on m cn)), (6, .int .i64 (s.1 : Nat))]) (fun s => [⟨59, [.res (mapRes p mb s.2)], true⟩, ⟨9, [.res (rowRes 9 1 on m cn (strs Ns))], true⟩]) (fun s => s.1 ≤ m ∧ AllOk s.2) (fun s => m - s.1) (0, []) mixed ⟨by simp, by simp⟩ (fun _ _ => rfl) rfl (by (repeat (first | exact trivial | refine ⟨⟨rfl, rfl⟩, ?_⟩))) (fun s _ => ⟨by (repeat (first | exact trivial | refine ⟨⟨_, rfl⟩, ?_⟩)), by (repeat (first | exact trivial | refine ⟨⟨_, rfl⟩, ?_⟩))⟩) fun s hJ => ?_
  obtain ⟨i, A⟩ := s
  obtain ⟨hi, ok⟩ := hJ
  dsimp only at hi ok ⊢
  (refine st rfl ?_; conv => arg 3; whnf)
  by_cases hlt : i < m
  · have h1 : i < n := by omega
    have h2 : i < 300 := by omega
    have ei : IntKind.i64.wrap ((i : Int) + 1) = ((i + 1 : Nat) : Int) := by rw [w64 (by omega) (by omega)]; simp
    obtain ⟨ad, rfl, hat⟩ := h.at_ h1
    have hgood := h.good i h1
    have hld : ∀ w' ad', Frm [] w w' → ad' = ad.add (i * 5) → (loadVar 29 ad').run Try.prog w' = .ok (.agg (opV (f i).k (f i).nm (f i).a (f i).b)) w' := fun w' ad' hf had => op_ld (o := none) (n := n) hat hf had
    have hlh : ∀ w' ad', Frm [] w w' → ad' = (ad.add (i * 5)).add 4 → (loadVar 3 ad').run Try.prog w' = .ok (.int .i64 (f i).h) w' := fun w' ad' hf had => load_cell aggInt (by subst had; rw [add_add]; exact hat w' hf 4 _ rfl)
    generalize hx : f i = x at hgood hld hlh
    obtain ⟨k, nm, a, b, hh⟩ := x
    dsimp only at hgood hld hlh
    (repeat (first | (refine n_must rfl ?_; (refine st rfl ?_; conv => arg 3; whnf)) | (refine n_chk (drawF_ok (by decide +kernel)) ?_; (refine st rfl ?_; conv => arg 3; whnf)) | (refine n_same rfl ?_; (refine st rfl ?_; conv => arg 3; whnf)) | (refine n_must ?_ ?_; (focus (first | (simp; done) | (simp; omega))); (refine st rfl ?_; conv => arg 3; whnf)) | (refine n_brT ?_ ?_; (focus (first | (simp; done) | (simp; omega))); (refine st rfl ?_; conv => arg 3; whnf)) | (refine n_brF ?_ ?_; (focus (first | (simp; done) | (simp; omega))); (refine st rfl ?_; conv => arg 3; whnf))))
    refine n_ld (.agg (opS k nm a b)) rfl rfl (fun w' hf => hld w' _ hf (by simp [add_add])) ?_
    (refine st rfl ?_; conv => arg 3; whnf)
    (repeat (first | (refine n_must rfl ?_; (refine st rfl ?_; conv => arg 3; whnf)) | (refine n_chk (drawF_ok (by decide +kernel)) ?_; (refine st rfl ?_; conv => arg 3; whnf)) | (refine n_same rfl ?_; (refine st rfl ?_; conv => arg 3; whnf)) | (refine n_must ?_ ?_; (focus (first | (simp; done) | (simp; omega))); (refine st rfl ?_; conv => arg 3; whnf)) | (refine n_brT ?_ ?_; (focus (first | (simp; done) | (simp; omega))); (refine st rfl ?_; conv => arg 3; whnf)) | (refine n_brF ?_ ?_; (focus (first | (simp; done) | (simp; omega))); (refine st rfl ?_; conv => arg 3; whnf))))
    refine n_call1 rfl fun ob => ?_
    refine n_callN (fun y : Option Addr × Nat => rowRes 39 4 y.1 m y.2 (looksC (looksOf A Ns))) 39 (fun y => .raw (.slice y.1 m y.2)) (fun y => .slice y.1 m y.2) (fun y => 0 < m → ∃ g, y.1 = some ⟨g, 0, none⟩) rfl rfl rfl (fun _ => rfl) (fun w1 hI1 => (looked_ok (hI1.res 0 rfl rfl) (hI1.res 1 rfl rfl) (hI1.resLt 1 rfl rfl) (hI1.res_res 0 1 (by decide) rfl rfl rfl rfl) hnl hm3 hns).mono fun e w' ⟨y, he, _, hf⟩ => ⟨y, he, fun h0 => rowRes_some hf.2.1 h0, hf⟩) ?_
    rintro ⟨ow, cw⟩ how hnw
    dsimp only at how
    obtain ⟨gw, rfl⟩ := how (by omega)
    obtain ⟨gn, rfl⟩ := hon (by omega)
    (refine st rfl ?_; conv => arg 3; whnf)
    (repeat (first | (refine n_must rfl ?_; (refine st rfl ?_; conv => arg 3; whnf)) | (refine n_chk (drawF_ok (by decide +kernel)) ?_; (refine st rfl ?_; conv => arg 3; whnf)) | (refine n_same rfl ?_; (refine st rfl ?_; conv => arg 3; whnf)) | (refine n_must ?_ ?_; (focus (first | (simp; done) | (simp; omega))); (refine st rfl ?_; conv => arg 3; whnf)) | (refine n_brT ?_ ?_; (focus (first | (simp; done) | (simp; omega))); (refine st rfl ?_; conv => arg 3; whnf)) | (refine n_brF ?_ ?_; (focus (first | (simp; done) | (simp; omega))); (refine st rfl ?_; conv => arg 3; whnf))))
    refine n_ldD (.int .i64 hh) rfl rfl (fun w' hf => hlh w' _ hf (by simp)) ?_
    (refine st rfl ?_; conv => arg 3; whnf)
    (repeat (first | (refine n_must rfl ?_; (refine st rfl ?_; conv => arg 3; whnf)) | (refine n_chk (drawF_ok (by decide +kernel)) ?_; (refine st rfl ?_; conv => arg 3; whnf)) | (refine n_same rfl ?_; (refine st rfl ?_; conv => arg 3; whnf)) | (refine n_must ?_ ?_; (focus (first | (simp; done) | (simp; omega))); (refine st rfl ?_; conv => arg 3; whnf)) | (refine n_brT ?_ ?_; (focus (first | (simp; done) | (simp; omega))); (refine st rfl ?_; conv => arg 3; whnf)) | (refine n_brF ?_ ?_; (focus (first | (simp; done) | (simp; omega))); (refine st rfl ?_; conv => arg 3; whnf))))
    refine n_callR (Y := Nat) 0 (fun hn => mapRes p mb (doF A hn k nm a b hh).1) (fun hn => ansS (doF A hn k nm a b hh).2.1 (doF A hn k nm a b hh).2.2) (fun hn => ansV (doF A hn k nm a b hh).2.1 (doF A hn k nm a b hh).2.2) (fun _ => True) rfl rfl (fun _ => rfl) rfl rfl rfl (fun _ w1 hp1 hI1 hR => Do_ok hR ok k nm a b hh hgood.2.1 hgood.2.2.1 hgood.2.2.2.2) ?_
    intro hn _
    have dok := doF_ok ok hn k nm a b hh
    have derr := doF_errs (A := A) (hn := hn) (k := k) (nm := nm) (a := a) (b := b) (h := hh)
    have dfit := doF_fits ok (hn := hn) (k := k) (nm := nm) (a := a) (b := b) (h := hh)
    have doth := fun nm' => doF_other (A := A) (hn := hn) (k := k) (nm := nm) (nm' := nm') (a := a) (b := b) (h := hh)
    generalize doF A hn k nm a b hh = D at dok derr dfit doth
    obtain ⟨A', r, e⟩ := D
    dsimp only at dok derr dfit doth
    (refine st rfl ?_; conv => arg 3; whnf)
    (repeat (first | (refine n_must rfl ?_; (refine st rfl ?_; conv => arg 3; whnf)) | (refine n_chk (drawF_ok (by decide +kernel)) ?_; (refine st rfl ?_; conv => arg 3; whnf)) | (refine n_same rfl ?_; (refine st rfl ?_; conv => arg 3; whnf)) | (refine n_must ?_ ?_; (focus (first | (simp; done) | (simp; omega))); (refine st rfl ?_; conv => arg 3; whnf)) | (refine n_brT ?_ ?_; (focus (first | (simp; done) | (simp; omega))); (refine st rfl ?_; conv => arg 3; whnf)) | (refine n_brF ?_ ?_; (focus (first | (simp; done) | (simp; omega))); (refine st rfl ?_; conv => arg 3; whnf))))
    refine n_callN (fun y : Option Addr × Nat => rowRes 39 4 y.1 m y.2 (looksC (looksOf A' Ns))) 39 (fun y => .raw (.slice y.1 m y.2)) (fun y => .slice y.1 m y.2) (fun y => 0 < m → ∃ g, y.1 = some ⟨g, 0, none⟩) rfl rfl rfl (fun _ => rfl) (fun w1 hI1 => (looked_ok (hI1.res 0 rfl rfl) (hI1.res 1 rfl rfl) (hI1.resLt 1 rfl rfl) (hI1.res_res 0 1 (by decide) rfl rfl rfl rfl) hnl hm3 hns).mono fun e w' ⟨y, he, _, hf⟩ => ⟨y, he, fun h0 => rowRes_some hf.2.1 h0, hf⟩) ?_
    rintro ⟨oz, cz⟩ hoz hnz
    dsimp only at hoz
    obtain ⟨gz, rfl⟩ := hoz (by omega)
    (refine st rfl ?_; conv => arg 3; whnf)
    have e300 : IntKind.i64.wrap ((i : Int) + 1) = ((i + 1 : Nat) : Int) := ei
    have hLw : (looksOf A Ns).length = m := by simp [hnl]
    by_cases he : e = 0
    · (repeat (first | (refine n_must rfl ?_; (refine st rfl ?_; conv => arg 3; whnf)) | (refine n_chk (drawF_ok (by decide +kernel)) ?_; (refine st rfl ?_; conv => arg 3; whnf)) | (refine n_same rfl ?_; (refine st rfl ?_; conv => arg 3; whnf)) | (refine n_must ?_ ?_; (focus (first | (simp [he]; done) | (simp [he]; omega) | (simp only [he]; simp; done))); (refine st rfl ?_; conv => arg 3; whnf)) | (refine n_brT ?_ ?_; (focus (first | (simp [he]; done) | (simp [he]; omega) | (simp only [he]; simp; done))); (refine st rfl ?_; conv => arg 3; whnf)) | (refine n_brF ?_ ?_; (focus (first | (simp [he]; done) | (simp [he]; omega) | (simp only [he]; simp; done))); (refine st rfl ?_; conv => arg 3; whnf))))
      refine n_loop (σ := Nat) (fun q => [(0, .raw (.slice (some ad) n cap)), (4, .raw (pV p)), (5, .raw (.slice (some ⟨gn, 0, none⟩) m cn)), (6, .int .i64 (i : Nat)), (7, .ptr 2 0), (8, .raw (.slice (some ⟨gw, 0, none⟩) m cw)), (9, .int .i64 r), (10, .int .i64 e), (11, .raw (.slice (some ⟨gz, 0, none⟩) m cz)), (12, .int .i64 (q : Nat))]) (fun _ => [⟨59, [.res (mapRes p mb A')], true⟩, ⟨9, [.res (rowRes 9 1 (some ⟨gn, 0, none⟩) m cn (strs Ns))], true⟩, ⟨29, opS k nm a b, true⟩, ⟨39, [.res (rowRes 39 4 (some ⟨gw, 0, none⟩) m cw (looksC (looksOf A Ns)))], true⟩, ⟨39, [.res (rowRes 39 4 (some ⟨gz, 0, none⟩) m cz (looksC (looksOf A' Ns)))], true⟩]) (fun q => q ≤ m) (fun q => m - q) 0 mixed (by simp) (fun _ _ => rfl) rfl (by (repeat (first | exact trivial | refine ⟨⟨rfl, rfl⟩, ?_⟩))) (fun s _ => ⟨by (repeat (first | exact trivial | refine ⟨⟨_, rfl⟩, ?_⟩)), by (repeat (first | exact trivial | refine ⟨⟨_, rfl⟩, ?_⟩))⟩) fun q hJq => ?_
      (refine st rfl ?_; conv => arg 3; whnf)
      by_cases hq : q < m
      · have eq1 : IntKind.i64.wrap ((q : Int) + 1) = ((q + 1 : Nat) : Int) := by rw [w64 (by omega) (by omega)]; simp
        have hget : Ns[q]? = some Ns[q] := List.getElem?_eq_getElem _
        generalize Ns[q] = nm' at hget
        have hw : (looksOf A Ns)[q]? = some (lookOf A nm') := by simp [looksOf, hget]
        have hz : (looksOf A' Ns)[q]? = some (lookOf A' nm') := by simp [looksOf, hget]
        have bw := look_bounds ok nm'
        have bz := look_bounds dok nm'
        have hne := doth nm'
        have hfit : nm' = nm → e = 0 → fitsB k nm a b r (lookOf A nm') (lookOf A' nm') = true := by rintro rfl h; exact dfit h
        generalize lookOf A nm' = x at hw bw hne hfit
        generalize lookOf A' nm' = y at hz bz hne hfit
        have ewr : IntKind.i64.wrap (y.v + y.h) = y.v + y.h := w64 (by omega) (by omega)
        have hst : ∀ (ids' : List Nat) (w1 : World), Inv (cx 134 [] [] w) w1 ids' [⟨59, [.res (mapRes p mb A')], true⟩] → True := fun _ _ _ => trivial
        (repeat (first | (refine n_must rfl ?_; (refine st rfl ?_; conv => arg 3; whnf)) | (refine n_chk (drawF_ok (by decide +kernel)) ?_; (refine st rfl ?_; conv => arg 3; whnf)) | (refine n_same rfl ?_; (refine st rfl ?_; conv => arg 3; whnf)) | (refine n_must ?_ ?_; (focus (first | (simp; done) | (simp; omega))); (refine st rfl ?_; conv => arg 3; whnf)) | (refine n_brT ?_ ?_; (focus (first | (simp; done) | (simp; omega))); (refine st rfl ?_; conv => arg 3; whnf)) | (refine n_brF ?_ ?_; (focus (first | (simp; done) | (simp; omega))); (refine st rfl ?_; conv => arg 3; whnf))))
        refine n_ldI (.agg x.sv) rfl rfl (fun _ w1 _ hI1 => look_ld (hI1.res 3 rfl rfl) hw (by simp)) ?_
        (refine st rfl ?_; conv => arg 3; whnf)
        (repeat (first | (refine n_must rfl ?_; (refine st rfl ?_; conv => arg 3; whnf)) | (refine n_chk (drawF_ok (by decide +kernel)) ?_; (refine st rfl ?_; conv => arg 3; whnf)) | (refine n_same rfl ?_; (refine st rfl ?_; conv => arg 3; whnf)) | (refine n_must ?_ ?_; (focus (first | (simp; done) | (simp; omega))); (refine st rfl ?_; conv => arg 3; whnf)) | (refine n_brT ?_ ?_; (focus (first | (simp; done) | (simp; omega))); (refine st rfl ?_; conv => arg 3; whnf)) | (refine n_brF ?_ ?_; (focus (first | (simp; done) | (simp; omega))); (refine st rfl ?_; conv => arg 3; whnf))))
        refine n_ldI (.agg y.sv) rfl rfl (fun _ w1 _ hI1 => look_ld (hI1.res 4 rfl rfl) hz (by simp)) ?_
        (refine st rfl ?_; conv => arg 3; whnf)
        (repeat (first | (refine n_must rfl ?_; (refine st rfl ?_; conv => arg 3; whnf)) | (refine n_chk (drawF_ok (by decide +kernel)) ?_; (refine st rfl ?_; conv => arg 3; whnf)) | (refine n_same rfl ?_; (refine st rfl ?_; conv => arg 3; whnf)) | (refine n_must ?_ ?_; (focus (first | (simp [ewr]; done) | (simp [ewr]; omega) | (simp only [ewr]; simp; done))); (refine st rfl ?_; conv => arg 3; whnf)) | (refine n_brT ?_ ?_; (focus (first | (simp [ewr]; done) | (simp [ewr]; omega) | (simp only [ewr]; simp; done))); (refine st rfl ?_; conv => arg 3; whnf)) | (refine n_brF ?_ ?_; (focus (first | (simp [ewr]; done) | (simp [ewr]; omega) | (simp only [ewr]; simp; done))); (refine st rfl ?_; conv => arg 3; whnf))))
        refine n_ldDI (.str nm') rfl rfl (fun _ w1 _ hI1 => load_cell aggStr (by have := rowRes_cell (hI1.res 1 rfl rfl) (j := q) (u := .string nm') (by simp [strs, hget]); simpa using this)) ?_
        (refine st rfl ?_; conv => arg 3; whnf)
        by_cases hnm : nm' = nm
        · subst hnm
          (repeat (first | (refine n_must rfl ?_; (refine st rfl ?_; conv => arg 3; whnf)) | (refine n_chk (drawF_ok (by decide +kernel)) ?_; (refine st rfl ?_; conv => arg 3; whnf)) | (refine n_same rfl ?_; (refine st rfl ?_; conv => arg 3; whnf)) | (refine n_must ?_ ?_; (focus (first | (simp [ewr]; done) | (simp [ewr]; omega) | (simp only [ewr]; simp; done))); (refine st rfl ?_; conv => arg 3; whnf)) | (refine n_brT ?_ ?_; (focus (first | (simp [ewr]; done) | (simp [ewr]; omega) | (simp only [ewr]; simp; done))); (refine st rfl ?_; conv => arg 3; whnf)) | (refine n_brF ?_ ?_; (focus (first | (simp [ewr]; done) | (simp [ewr]; omega) | (simp only [ewr]; simp; done))); (refine st rfl ?_; conv => arg 3; whnf))))
          refine n_ldDI (.str nm') rfl rfl (fun _ w1 _ hI1 => load_cell aggStr (by have := rowRes_cell (hI1.res 1 rfl rfl) (j := q) (u := .string nm') (by simp [strs, hget]); simpa using this)) ?_
          (refine st rfl ?_; conv => arg 3; whnf)
          (repeat (first | (refine n_must rfl ?_; (refine st rfl ?_; conv => arg 3; whnf)) | (refine n_chk (drawF_ok (by decide +kernel)) ?_; (refine st rfl ?_; conv => arg 3; whnf)) | (refine n_same rfl ?_; (refine st rfl ?_; conv => arg 3; whnf)) | (refine n_must ?_ ?_; (focus (first | (simp [ewr, he]; done) | (simp [ewr, he]; omega) | (simp only [ewr, he]; simp; done))); (refine st rfl ?_; conv => arg 3; whnf)) | (refine n_brT ?_ ?_; (focus (first | (simp [ewr, he]; done) | (simp [ewr, he]; omega) | (simp only [ewr, he]; simp; done))); (refine st rfl ?_; conv => arg 3; whnf)) | (refine n_brF ?_ ?_; (focus (first | (simp [ewr, he]; done) | (simp [ewr, he]; omega) | (simp only [ewr, he]; simp; done))); (refine st rfl ?_; conv => arg 3; whnf))))
          refine n_sameP (.bool true) rfl rfl rfl (fun _ w1 hp1 hI1 => fits_ok k nm' a b r x y (hfit rfl he) ⟨by omega, by omega, by omega, by omega⟩ ⟨by omega, by omega, by omega, by omega⟩ w1) ?_; (refine st rfl ?_; conv => arg 3; whnf)
          (repeat (first | (refine n_must rfl ?_; (refine st rfl ?_; conv => arg 3; whnf)) | (refine n_chk (drawF_ok (by decide +kernel)) ?_; (refine st rfl ?_; conv => arg 3; whnf)) | (refine n_same rfl ?_; (refine st rfl ?_; conv => arg 3; whnf)) | (refine n_must ?_ ?_; (focus (first | (simp; done) | (simp; omega))); (refine st rfl ?_; conv => arg 3; whnf)) | (refine n_brT ?_ ?_; (focus (first | (simp; done) | (simp; omega))); (refine st rfl ?_; conv => arg 3; whnf)) | (refine n_brF ?_ ?_; (focus (first | (simp; done) | (simp; omega))); (refine st rfl ?_; conv => arg 3; whnf))))
          exact n_again ⟨q + 1, by omega, by omega, (by (repeat (first | exact trivial | refine ⟨⟨rfl, rfl⟩, ?_⟩ | refine ⟨⟨rfl, congrArg (SV.int .i64) eq1⟩, ?_⟩))), ⟨_, rfl⟩⟩
        · have hyx := hne hnm
          have hs := str_ne hnm
          subst hyx
          (repeat (first | (refine n_must rfl ?_; (refine st rfl ?_; conv => arg 3; whnf)) | (refine n_chk (drawF_ok (by decide +kernel)) ?_; (refine st rfl ?_; conv => arg 3; whnf)) | (refine n_same rfl ?_; (refine st rfl ?_; conv => arg 3; whnf)) | (refine n_must ?_ ?_; (focus (first | (simp [ewr, hs]; done) | (simp [ewr, hs]; omega) | (simp only [ewr, hs]; simp; done))); (refine st rfl ?_; conv => arg 3; whnf)) | (refine n_brT ?_ ?_; (focus (first | (simp [ewr, hs]; done) | (simp [ewr, hs]; omega) | (simp only [ewr, hs]; simp; done))); (refine st rfl ?_; conv => arg 3; whnf)) | (refine n_brF ?_ ?_; (focus (first | (simp [ewr, hs]; done) | (simp [ewr, hs]; omega) | (simp only [ewr, hs]; simp; done))); (refine st rfl ?_; conv => arg 3; whnf))))
          refine n_ldDI (.str nm') rfl rfl (fun _ w1 _ hI1 => load_cell aggStr (by have := rowRes_cell (hI1.res 1 rfl rfl) (j := q) (u := .string nm') (by simp [strs, hget]); simpa using this)) ?_
          (refine st rfl ?_; conv => arg 3; whnf)
          (repeat (first | (refine n_must rfl ?_; (refine st rfl ?_; conv => arg 3; whnf)) | (refine n_chk (drawF_ok (by decide +kernel)) ?_; (refine st rfl ?_; conv => arg 3; whnf)) | (refine n_same rfl ?_; (refine st rfl ?_; conv => arg 3; whnf)) | (refine n_must ?_ ?_; (focus (first | (simp [ewr, hs]; done) | (simp [ewr, hs]; omega) | (simp only [ewr, hs]; simp; done))); (refine st rfl ?_; conv => arg 3; whnf)) | (refine n_brT ?_ ?_; (focus (first | (simp [ewr, hs]; done) | (simp [ewr, hs]; omega) | (simp only [ewr, hs]; simp; done))); (refine st rfl ?_; conv => arg 3; whnf)) | (refine n_brF ?_ ?_; (focus (first | (simp [ewr, hs]; done) | (simp [ewr, hs]; omega) | (simp only [ewr, hs]; simp; done))); (refine st rfl ?_; conv => arg 3; whnf))))
          exact n_again ⟨q + 1, by omega, by omega, (by (repeat (first | exact trivial | refine ⟨⟨rfl, rfl⟩, ?_⟩ | refine ⟨⟨rfl, congrArg (SV.int .i64) eq1⟩, ?_⟩))), ⟨_, rfl⟩⟩
      · obtain rfl : q = m := by omega
        (repeat (first | (refine n_must rfl ?_; (refine st rfl ?_; conv => arg 3; whnf)) | (refine n_chk (drawF_ok (by decide +kernel)) ?_; (refine st rfl ?_; conv => arg 3; whnf)) | (refine n_same rfl ?_; (refine st rfl ?_; conv => arg 3; whnf)) | (refine n_must ?_ ?_; (focus (first | (simp; done) | (simp; omega))); (refine st rfl ?_; conv => arg 3; whnf)) | (refine n_brT ?_ ?_; (focus (first | (simp; done) | (simp; omega))); (refine st rfl ?_; conv => arg 3; whnf)) | (refine n_brF ?_ ?_; (focus (first | (simp; done) | (simp; omega))); (refine st rfl ?_; conv => arg 3; whnf))))
        refine n_exit rfl ?_
        (refine st rfl ?_; conv => arg 3; whnf)
        (repeat (first | (refine n_must rfl ?_; (refine st rfl ?_; conv => arg 3; whnf)) | (refine n_chk (drawF_ok (by decide +kernel)) ?_; (refine st rfl ?_; conv => arg 3; whnf)) | (refine n_same rfl ?_; (refine st rfl ?_; conv => arg 3; whnf)) | (refine n_must ?_ ?_; (focus (first | (simp; done) | (simp; omega))); (refine st rfl ?_; conv => arg 3; whnf)) | (refine n_brT ?_ ?_; (focus (first | (simp; done) | (simp; omega))); (refine st rfl ?_; conv => arg 3; whnf)) | (refine n_brF ?_ ?_; (focus (first | (simp; done) | (simp; omega))); (refine st rfl ?_; conv => arg 3; whnf))))
        exact n_again ⟨(i + 1, A'), ⟨by dsimp only; omega, dok⟩, by dsimp only; omega, (by (repeat (first | exact trivial | refine ⟨⟨rfl, rfl⟩, ?_⟩ | refine ⟨⟨rfl, congrArg (SV.int .i64) ei⟩, ?_⟩))), ⟨_, rfl⟩⟩
    · obtain ⟨hA, hr⟩ := derr he
      (repeat (first | (refine n_must rfl ?_; (refine st rfl ?_; conv => arg 3; whnf)) | (refine n_chk (drawF_ok (by decide +kernel)) ?_; (refine st rfl ?_; conv => arg 3; whnf)) | (refine n_same rfl ?_; (refine st rfl ?_; conv => arg 3; whnf)) | (refine n_must ?_ ?_; (focus (first | (simp [he, hr]; done) | (simp [he, hr]; omega) | (simp only [he, hr]; simp; done))); (refine st rfl ?_; conv => arg 3; whnf)) | (refine n_brT ?_ ?_; (focus (first | (simp [he, hr]; done) | (simp [he, hr]; omega) | (simp only [he, hr]; simp; done))); (refine st rfl ?_; conv => arg 3; whnf)) | (refine n_brF ?_ ?_; (focus (first | (simp [he, hr]; done) | (simp [he, hr]; omega) | (simp only [he, hr]; simp; done))); (refine st rfl ?_; conv => arg 3; whnf))))
      refine n_sameP (.bool true) rfl rfl rfl (fun _ w1 hp1 hI1 => same_at (by rw [hA]) hLw hm3 (hI1.res 3 rfl rfl) (hI1.res 4 rfl rfl) (hI1.resLt 3 rfl rfl) (hI1.resLt 4 rfl rfl) (hI1.res_res 3 4 (by decide) rfl rfl rfl rfl)) ?_; (refine st rfl ?_; conv => arg 3; whnf)
      (repeat (first | (refine n_must rfl ?_; (refine st rfl ?_; conv => arg 3; whnf)) | (refine n_chk (drawF_ok (by decide +kernel)) ?_; (refine st rfl ?_; conv => arg 3; whnf)) | (refine n_same rfl ?_; (refine st rfl ?_; conv => arg 3; whnf)) | (refine n_must ?_ ?_; (focus (first | (simp [he, hr]; done) | (simp [he, hr]; omega) | (simp only [he, hr]; simp; done))); (refine st rfl ?_; conv => arg 3; whnf)) | (refine n_brT ?_ ?_; (focus (first | (simp [he, hr]; done) | (simp [he, hr]; omega) | (simp only [he, hr]; simp; done))); (refine st rfl ?_; conv => arg 3; whnf)) | (refine n_brF ?_ ?_; (focus (first | (simp [he, hr]; done) | (simp [he, hr]; omega) | (simp only [he, hr]; simp; done))); (refine st rfl ?_; conv => arg 3; whnf))))
      refine n_loop (σ := Nat) (fun q => [(0, .raw (.slice (some ad) n cap)), (4, .raw (pV p)), (5, .raw (.slice (some ⟨gn, 0, none⟩) m cn)), (6, .int .i64 (i : Nat)), (7, .ptr 2 0), (8, .raw (.slice (some ⟨gw, 0, none⟩) m cw)), (9, .int .i64 r), (10, .int .i64 e), (11, .raw (.slice (some ⟨gz, 0, none⟩) m cz)), (12, .int .i64 (q : Nat))]) (fun _ => [⟨59, [.res (mapRes p mb A')], true⟩, ⟨9, [.res (rowRes 9 1 (some ⟨gn, 0, none⟩) m cn (strs Ns))], true⟩, ⟨29, opS k nm a b, true⟩, ⟨39, [.res (rowRes 39 4 (some ⟨gw, 0, none⟩) m cw (looksC (looksOf A Ns)))], true⟩, ⟨39, [.res (rowRes 39 4 (some ⟨gz, 0, none⟩) m cz (looksC (looksOf A' Ns)))], true⟩]) (fun q => q ≤ m) (fun q => m - q) 0 mixed (by simp) (fun _ _ => rfl) rfl (by (repeat (first | exact trivial | refine ⟨⟨rfl, rfl⟩, ?_⟩))) (fun s _ => ⟨by (repeat (first | exact trivial | refine ⟨⟨_, rfl⟩, ?_⟩)), by (repeat (first | exact trivial | refine ⟨⟨_, rfl⟩, ?_⟩))⟩) fun q hJq => ?_
      (refine st rfl ?_; conv => arg 3; whnf)
      by_cases hq : q < m
      · have eq1 : IntKind.i64.wrap ((q : Int) + 1) = ((q + 1 : Nat) : Int) := by rw [w64 (by omega) (by omega)]; simp
        have hget : Ns[q]? = some Ns[q] := List.getElem?_eq_getElem _
        generalize Ns[q] = nm' at hget
        have hw : (looksOf A Ns)[q]? = some (lookOf A nm') := by simp [looksOf, hget]
        have hz : (looksOf A' Ns)[q]? = some (lookOf A' nm') := by simp [looksOf, hget]
        have bw := look_bounds ok nm'
        have bz := look_bounds dok nm'
        have hne := doth nm'
        have hfit : nm' = nm → e = 0 → fitsB k nm a b r (lookOf A nm') (lookOf A' nm') = true := by rintro rfl h; exact dfit h
        generalize lookOf A nm' = x at hw bw hne hfit
        generalize lookOf A' nm' = y at hz bz hne hfit
        have ewr : IntKind.i64.wrap (y.v + y.h) = y.v + y.h := w64 (by omega) (by omega)
        have hst : ∀ (ids' : List Nat) (w1 : World), Inv (cx 134 [] [] w) w1 ids' [⟨59, [.res (mapRes p mb A')], true⟩] → True := fun _ _ _ => trivial
        (repeat (first | (refine n_must rfl ?_; (refine st rfl ?_; conv => arg 3; whnf)) | (refine n_chk (drawF_ok (by decide +kernel)) ?_; (refine st rfl ?_; conv => arg 3; whnf)) | (refine n_same rfl ?_; (refine st rfl ?_; conv => arg 3; whnf)) | (refine n_must ?_ ?_; (focus (first | (simp; done) | (simp; omega))); (refine st rfl ?_; conv => arg 3; whnf)) | (refine n_brT ?_ ?_; (focus (first | (simp; done) | (simp; omega))); (refine st rfl ?_; conv => arg 3; whnf)) | (refine n_brF ?_ ?_; (focus (first | (simp; done) | (simp; omega))); (refine st rfl ?_; conv => arg 3; whnf))))
        refine n_ldI (.agg x.sv) rfl rfl (fun _ w1 _ hI1 => look_ld (hI1.res 3 rfl rfl) hw (by simp)) ?_
        (refine st rfl ?_; conv => arg 3; whnf)
        (repeat (first | (refine n_must rfl ?_; (refine st rfl ?_; conv => arg 3; whnf)) | (refine n_chk (drawF_ok (by decide +kernel)) ?_; (refine st rfl ?_; conv => arg 3; whnf)) | (refine n_same rfl ?_; (refine st rfl ?_; conv => arg 3; whnf)) | (refine n_must ?_ ?_; (focus (first | (simp; done) | (simp; omega))); (refine st rfl ?_; conv => arg 3; whnf)) | (refine n_brT ?_ ?_; (focus (first | (simp; done) | (simp; omega))); (refine st rfl ?_; conv => arg 3; whnf)) | (refine n_brF ?_ ?_; (focus (first | (simp; done) | (simp; omega))); (refine st rfl ?_; conv => arg 3; whnf))))
        refine n_ldI (.agg y.sv) rfl rfl (fun _ w1 _ hI1 => look_ld (hI1.res 4 rfl rfl) hz (by simp)) ?_
        (refine st rfl ?_; conv => arg 3; whnf)
        (repeat (first | (refine n_must rfl ?_; (refine st rfl ?_; conv => arg 3; whnf)) | (refine n_chk (drawF_ok (by decide +kernel)) ?_; (refine st rfl ?_; conv => arg 3; whnf)) | (refine n_same rfl ?_; (refine st rfl ?_; conv => arg 3; whnf)) | (refine n_must ?_ ?_; (focus (first | (simp [ewr]; done) | (simp [ewr]; omega) | (simp only [ewr]; simp; done))); (refine st rfl ?_; conv => arg 3; whnf)) | (refine n_brT ?_ ?_; (focus (first | (simp [ewr]; done) | (simp [ewr]; omega) | (simp only [ewr]; simp; done))); (refine st rfl ?_; conv => arg 3; whnf)) | (refine n_brF ?_ ?_; (focus (first | (simp [ewr]; done) | (simp [ewr]; omega) | (simp only [ewr]; simp; done))); (refine st rfl ?_; conv => arg 3; whnf))))
        refine n_ldDI (.str nm') rfl rfl (fun _ w1 _ hI1 => load_cell aggStr (by have := rowRes_cell (hI1.res 1 rfl rfl) (j := q) (u := .string nm') (by simp [strs, hget]); simpa using this)) ?_
        (refine st rfl ?_; conv => arg 3; whnf)
        by_cases hnm : nm' = nm
        · subst hnm
          (repeat (first | (refine n_must rfl ?_; (refine st rfl ?_; conv => arg 3; whnf)) | (refine n_chk (drawF_ok (by decide +kernel)) ?_; (refine st rfl ?_; conv => arg 3; whnf)) | (refine n_same rfl ?_; (refine st rfl ?_; conv => arg 3; whnf)) | (refine n_must ?_ ?_; (focus (first | (simp [ewr]; done) | (simp [ewr]; omega) | (simp only [ewr]; simp; done))); (refine st rfl ?_; conv => arg 3; whnf)) | (refine n_brT ?_ ?_; (focus (first | (simp [ewr]; done) | (simp [ewr]; omega) | (simp only [ewr]; simp; done))); (refine st rfl ?_; conv => arg 3; whnf)) | (refine n_brF ?_ ?_; (focus (first | (simp [ewr]; done) | (simp [ewr]; omega) | (simp only [ewr]; simp; done))); (refine st rfl ?_; conv => arg 3; whnf))))
          refine n_ldDI (.str nm') rfl rfl (fun _ w1 _ hI1 => load_cell aggStr (by have := rowRes_cell (hI1.res 1 rfl rfl) (j := q) (u := .string nm') (by simp [strs, hget]); simpa using this)) ?_
          (refine st rfl ?_; conv => arg 3; whnf)
          (repeat (first | (refine n_must rfl ?_; (refine st rfl ?_; conv => arg 3; whnf)) | (refine n_chk (drawF_ok (by decide +kernel)) ?_; (refine st rfl ?_; conv => arg 3; whnf)) | (refine n_same rfl ?_; (refine st rfl ?_; conv => arg 3; whnf)) | (refine n_must ?_ ?_; (focus (first | (simp [ewr, he]; done) | (simp [ewr, he]; omega) | (simp only [ewr, he]; simp; done))); (refine st rfl ?_; conv => arg 3; whnf)) | (refine n_brT ?_ ?_; (focus (first | (simp [ewr, he]; done) | (simp [ewr, he]; omega) | (simp only [ewr, he]; simp; done))); (refine st rfl ?_; conv => arg 3; whnf)) | (refine n_brF ?_ ?_; (focus (first | (simp [ewr, he]; done) | (simp [ewr, he]; omega) | (simp only [ewr, he]; simp; done))); (refine st rfl ?_; conv => arg 3; whnf))))
          exact n_again ⟨q + 1, by omega, by omega, (by (repeat (first | exact trivial | refine ⟨⟨rfl, rfl⟩, ?_⟩ | refine ⟨⟨rfl, congrArg (SV.int .i64) eq1⟩, ?_⟩))), ⟨_, rfl⟩⟩
        · have hyx := hne hnm
          have hs := str_ne hnm
          subst hyx
          (repeat (first | (refine n_must rfl ?_; (refine st rfl ?_; conv => arg 3; whnf)) | (refine n_chk (drawF_ok (by decide +kernel)) ?_; (refine st rfl ?_; conv => arg 3; whnf)) | (refine n_same rfl ?_; (refine st rfl ?_; conv => arg 3; whnf)) | (refine n_must ?_ ?_; (focus (first | (simp [ewr, hs]; done) | (simp [ewr, hs]; omega) | (simp only [ewr, hs]; simp; done))); (refine st rfl ?_; conv => arg 3; whnf)) | (refine n_brT ?_ ?_; (focus (first | (simp [ewr, hs]; done) | (simp [ewr, hs]; omega) | (simp only [ewr, hs]; simp; done))); (refine st rfl ?_; conv => arg 3; whnf)) | (refine n_brF ?_ ?_; (focus (first | (simp [ewr, hs]; done) | (simp [ewr, hs]; omega) | (simp only [ewr, hs]; simp; done))); (refine st rfl ?_; conv => arg 3; whnf))))
          refine n_ldDI (.str nm') rfl rfl (fun _ w1 _ hI1 => load_cell aggStr (by have := rowRes_cell (hI1.res 1 rfl rfl) (j := q) (u := .string nm') (by simp [strs, hget]); simpa using this)) ?_
          (refine st rfl ?_; conv => arg 3; whnf)
          (repeat (first | (refine n_must rfl ?_; (refine st rfl ?_; conv => arg 3; whnf)) | (refine n_chk (drawF_ok (by decide +kernel)) ?_; (refine st rfl ?_; conv => arg 3; whnf)) | (refine n_same rfl ?_; (refine st rfl ?_; conv => arg 3; whnf)) | (refine n_must ?_ ?_; (focus (first | (simp [ewr, hs]; done) | (simp [ewr, hs]; omega) | (simp only [ewr, hs]; simp; done))); (refine st rfl ?_; conv => arg 3; whnf)) | (refine n_brT ?_ ?_; (focus (first | (simp [ewr, hs]; done) | (simp [ewr, hs]; omega) | (simp only [ewr, hs]; simp; done))); (refine st rfl ?_; conv => arg 3; whnf)) | (refine n_brF ?_ ?_; (focus (first | (simp [ewr, hs]; done) | (simp [ewr, hs]; omega) | (simp only [ewr, hs]; simp; done))); (refine st rfl ?_; conv => arg 3; whnf))))
          exact n_again ⟨q + 1, by omega, by omega, (by (repeat (first | exact trivial | refine ⟨⟨rfl, rfl⟩, ?_⟩ | refine ⟨⟨rfl, congrArg (SV.int .i64) eq1⟩, ?_⟩))), ⟨_, rfl⟩⟩
      · obtain rfl : q = m := by omega
        (repeat (first | (refine n_must rfl ?_; (refine st rfl ?_; conv => arg 3; whnf)) | (refine n_chk (drawF_ok (by decide +kernel)) ?_; (refine st rfl ?_; conv => arg 3; whnf)) | (refine n_same rfl ?_; (refine st rfl ?_; conv => arg 3; whnf)) | (refine n_must ?_ ?_; (focus (first | (simp; done) | (simp; omega))); (refine st rfl ?_; conv => arg 3; whnf)) | (refine n_brT ?_ ?_; (focus (first | (simp; done) | (simp; omega))); (refine st rfl ?_; conv => arg 3; whnf)) | (refine n_brF ?_ ?_; (focus (first | (simp; done) | (simp; omega))); (refine st rfl ?_; conv => arg 3; whnf))))
        refine n_exit rfl ?_
        (refine st rfl ?_; conv => arg 3; whnf)
        (repeat (first | (refine n_must rfl ?_; (refine st rfl ?_; conv => arg 3; whnf)) | (refine n_chk (drawF_ok (by decide +kernel)) ?_; (refine st rfl ?_; conv => arg 3; whnf)) | (refine n_same rfl ?_; (refine st rfl ?_; conv => arg 3; whnf)) | (refine n_must ?_ ?_; (focus (first | (simp; done) | (simp; omega))); (refine st rfl ?_; conv => arg 3; whnf)) | (refine n_brT ?_ ?_; (focus (first | (simp; done) | (simp; omega))); (refine st rfl ?_; conv => arg 3; whnf)) | (refine n_brF ?_ ?_; (focus (first | (simp; done) | (simp; omega))); (refine st rfl ?_; conv => arg 3; whnf))))
        exact n_again ⟨(i + 1, A'), ⟨by dsimp only; omega, dok⟩, by dsimp only; omega, (by (repeat (first | exact trivial | refine ⟨⟨rfl, rfl⟩, ?_⟩ | refine ⟨⟨rfl, congrArg (SV.int .i64) ei⟩, ?_⟩))), ⟨_, rfl⟩⟩
  · have him : i = m := by omega
    (repeat' (first | (refine n_must rfl ?_; (refine st rfl ?_; conv => arg 3; whnf)) | (refine n_chk (drawF_ok (by decide +kernel)) ?_; (refine st rfl ?_; conv => arg 3; whnf)) | (refine n_same rfl ?_; (refine st rfl ?_; conv => arg 3; whnf)) | (refine n_must ?_ ?_; (focus (first | (simp; done) | (simp; omega))); (refine st rfl ?_; conv => arg 3; whnf)) | (refine n_brT ?_ ?_; (focus (first | (simp; done) | (simp; omega))); (refine st rfl ?_; conv => arg 3; whnf)) | (refine n_brF ?_ ?_; (focus (first | (simp; done) | (simp; omega))); (refine st rfl ?_; conv => arg 3; whnf)) | (refine n_br (fun hbr => ?_) (fun hbr => ?_) <;> simp at hbr <;> (refine st rfl ?_; conv => arg 3; whnf))))
    all_goals try (exfalso; omega)
    all_goals (refine n_exit rfl ?_; (refine st rfl ?_; conv => arg 3; whnf); (repeat (first | (refine n_must rfl ?_; (refine st rfl ?_; conv => arg 3; whnf)) | (refine n_chk (drawF_ok (by decide +kernel)) ?_; (refine st rfl ?_; conv => arg 3; whnf)) | (refine n_same rfl ?_; (refine st rfl ?_; conv => arg 3; whnf)) | (refine n_brT ?_ ?_; (focus (simp <;> fail)); (refine st rfl ?_; conv => arg 3; whnf)) | (refine n_brF ?_ ?_; (focus (simp <;> fail)); (refine st rfl ?_; conv => arg 3; whnf)))))
    all_goals exact n_ret0 rfl rfl fun ids' w' hp hI' => ⟨rfl, hI'.frm⟩
end Go.Proofs.Yteapjjkgbnnipaa
