/- Package atom: Do. -/
import Derived.Test.YteapjjkgbnnipaaAtC
set_option maxRecDepth 100000
set_option linter.unusedSimpArgs false
set_option linter.unusedVariables false
set_option maxHeartbeats 4000000
namespace Go.Proofs.Yteapjjkgbnnipaa
open Go.RowKit
open Go.Maps (Keyed)

/-! ### Lists of pairs -/
section
variable {κ ν : Type} [DecidableEq κ]
theorem mget_split : ∀ {A : List (κ × ν)} {x : κ} {s : ν}, mget A x = some s → ∃ l r, A = l ++ (x, s) :: r ∧ ∀ y, mput A x y = l ++ (x, y) :: r
  | [], x, s, h => by simp [mget] at h
  | (x', s') :: A, x, s, h => by
    by_cases e : x' = x
    · subst e
      simp [mget] at h
      subst h
      exact ⟨[], A, rfl, fun y => by simp [mput]⟩
    · have h' : mget A x = some s := by simpa [mget, e] using h
      obtain ⟨l, r, h1, h2⟩ := mget_split h'
      exact ⟨(x', s') :: l, r, by simp [h1], fun y => by simp [mput, e, h2 y]⟩
theorem mput_self {A : List (κ × ν)} {x : κ} {s : ν} (h : mget A x = some s) : mput A x s = A := by
  obtain ⟨l, r, h1, h2⟩ := mget_split h
  rw [h2, h1]
theorem mput_mput (A : List (κ × ν)) (x : κ) (y z : ν) : mput (mput A x y) x z = mput A x z := by
  induction A with
  | nil => simp [mput]
  | cons p A ih =>
    obtain ⟨x', s'⟩ := p
    by_cases e : x' = x
    · simp [mput, e]
    · simp [mput, e, ih]
end

theorem blocksOf_put {A : All} {nm : ByteArray} {s s' : Ctr} (hm : mget A nm = some s) (he : s'.hb = s.hb) : blocksOf (mput A nm s') = blocksOf A := by
  obtain ⟨l, r, h1, h2⟩ := mget_split hm
  rw [h2, h1]
  simp [he]
/-- Holds of one counter have changed. -/
theorem mapRes_holds {p mb cb : Nat} {A : All} {nm : ByteArray} {s : Ctr} (hm : mget A nm = some s) (holds' : List (Int × Int)) {w w' : World} (hR : (mapRes p mb A).R w) (hf : Frm [cb, s.hb] w w') (hcb : cb ∉ (mapRes p mb A).fp) (hM : MapOf intE intV w' s.hb holds') :
    (mapRes p mb (mput A nm { s with holds := holds' })).R w' := by
  have hblk := blocksOf_put (s' := { s with holds := holds' }) hm rfl
  obtain ⟨l, r, h1, h2⟩ := mget_split hm
  have hlt := mapRes_lt hR
  obtain ⟨r1, r2, r3, r4⟩ := hR
  have hkeep : ∀ x ∈ (mapRes p mb A).fp, x ≠ s.hb → w'.heap[x]? = w.heap[x]? := fun x hx hn => hf.block x (hlt x hx) (by
    simp only [List.mem_cons, List.not_mem_nil, or_false, not_or]
    exact ⟨fun e => hcb (e ▸ hx), hn⟩)
  rw [h1] at r4
  simp only [blocksOf, List.map_append, List.map_cons, List.nodup_cons, List.mem_cons, List.mem_append, not_or, List.nodup_append] at r4
  obtain ⟨⟨n1, n2, n3, n4⟩, ⟨n5, n6, n7⟩, n8, ⟨n9, n10⟩, n11⟩ := r4
  refine ⟨(hkeep p (by simp [mapRes]) n3).trans r1, ?_, ?_, ?_⟩
  · obtain ⟨⟨es, cl, e1, e2, e3⟩, e4⟩ := r2
    refine ⟨⟨es, cl, (hkeep mb (by simp [mapRes]) n6).trans e1, e2, ?_⟩, ?_⟩
    · rw [e3, h2, h1]; simp
    · intro q hq
      rw [h2] at hq
      simp only [List.mem_append, List.mem_cons] at hq
      rcases hq with hq | rfl | hq
      · exact e4 q (by simp [h1, hq])
      · exact e4 (nm, s) (by simp [h1])
      · exact e4 q (by simp [h1, hq])
  · intro x hx
    rw [h2] at hx
    simp only [List.mem_append, List.mem_cons] at hx
    have ho : ∀ x ∈ A, x.2.hb ≠ s.hb → MapOf intE intV w' x.2.hb x.2.holds := fun x hx hn => (r3 x hx).keep (hkeep _ (by simp only [mapRes, blocksOf, List.mem_cons, List.mem_map]; exact .inr (.inr ⟨x, hx, rfl⟩)) hn)
    rcases hx with hx | rfl | hx
    · exact ho x (by simp [h1, hx]) fun e => n11 x.2.hb (List.mem_map.2 ⟨x, hx, rfl⟩) x.2.hb (by rw [e]; simp) rfl
    · exact hM
    · exact ho x (by simp [h1, hx]) fun e => n9 (by rw [← e]; exact List.mem_map.2 ⟨x, hx, rfl⟩)
  · rw [hblk, h1]
    simp only [blocksOf, List.map_append, List.map_cons, List.nodup_cons, List.mem_cons, List.mem_append, not_or, List.nodup_append]
    exact ⟨⟨n1, n2, n3, n4⟩, ⟨n5, n6, n7⟩, n8, ⟨n9, n10⟩, n11⟩
/-- One counter has been stored. -/
theorem mapRes_put {p mb : Nat} {A : All} {nm : ByteArray} {s s' : Ctr} (hm : mget A nm = some s) (he : s'.hb = s.hb) (hh : s'.holds = s.holds) {w w' : World} (hR : (mapRes p mb A).R w) (hf : Frm [mb] w w') (hM : MapOf strE ctrV w' mb (mput A nm s')) :
    (mapRes p mb (mput A nm s')).R w' := by
  have hblk := blocksOf_put hm he
  obtain ⟨l, r, h1, h2⟩ := mget_split hm
  have hlt := mapRes_lt hR
  obtain ⟨r1, r2, r3, r4⟩ := hR
  have hkeep : ∀ x ∈ (mapRes p mb A).fp, x ≠ mb → w'.heap[x]? = w.heap[x]? := fun x hx hn => hf.block x (hlt x hx) (by simpa using hn)
  have r4' := r4
  simp only [List.nodup_cons, List.mem_cons, not_or] at r4'
  have ho : ∀ x ∈ A, MapOf intE intV w' x.2.hb x.2.holds := fun x hx => (r3 x hx).keep (hkeep _ (by simp only [mapRes, blocksOf, List.mem_cons, List.mem_map]; exact .inr (.inr ⟨x, hx, rfl⟩)) fun e => r4'.2.1 (List.mem_map.2 ⟨x, hx, e⟩))
  refine ⟨(hkeep p (by simp [mapRes]) r4'.1.1).trans r1, hM, fun x hx => ?_, by rw [hblk]; exact r4⟩
  rw [h2] at hx
  simp only [List.mem_append, List.mem_cons] at hx
  rcases hx with hx | rfl | hx
  · exact ho x (by simp [h1, hx])
  · have := ho (nm, s) (by simp [h1])
    simpa [he, hh] using this
  · exact ho x (by simp [h1, hx])

/-! ### What Do does -/
def actF (s : Ctr) (k a b h : Int) : Ctr × Int × Int :=
  if k = 2 then s.inc a else if k = 3 then s.inc (-a) else if k = 4 then s.hold a h else if k = 5 then s.end_ 5 a else if k = 6 then s.end_ 6 a else if k = 12 then s.end_ 12 a
  else if k = 8 then s.take a b else if k = 9 then s.reset a else if k = 10 then s.recap a else (s, s.value, 0)
def doF (A : All) (hn : Nat) (k : Int) (nm : ByteArray) (a b h : Int) : All × Int × Int :=
  if rightB k nm a b = false then (A, 0, 1) else match mget A nm with
  | none => if k = 1 then (if a < b then (A, 0, 61) else (mput A nm ⟨a, b, 0, hn, []⟩, 0, 0)) else (A, 0, 100)
  | some s => if k = 1 then (A, 0, 101) else (mput A nm (actF s k a b h).1, (actF s k a b h).2)
theorem actF_err {s : Ctr} {k a b h : Int} (he : (actF s k a b h).2.2 ≠ 0) : (actF s k a b h).1 = s ∧ (actF s k a b h).2.1 = 0 := by
  revert he
  unfold actF Ctr.inc Ctr.hold Ctr.end_ Ctr.take Ctr.reset Ctr.recap
  repeat' split
  all_goals simp
theorem actF_hb (s : Ctr) (k a b h : Int) : (actF s k a b h).1.hb = s.hb := by
  unfold actF Ctr.inc Ctr.hold Ctr.end_ Ctr.take Ctr.reset Ctr.recap
  repeat' split
  all_goals rfl

end Go.Proofs.Yteapjjkgbnnipaa
