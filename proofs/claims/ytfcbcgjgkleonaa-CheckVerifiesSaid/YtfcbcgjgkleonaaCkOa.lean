/- Package check: a search's memory. -/
import Derived.Test.YtfcbcgjgkleonaaCkN
import Derived.Test.YtfcbcgjgkleonaaSl
set_option maxRecDepth 100000
set_option linter.unusedSimpArgs false
set_option linter.unusedVariables false
set_option maxHeartbeats 16000000
namespace Go.Proofs.Ytfcbcgjgkleonaa
open Go.RowKit

abbrev strs (l : List ByteArray) : List Value := l.map Value.string
structure SA where
  ho : Option Addr
  hc : Nat
  so : Option Addr
  sc : Nat
  d : Option Addr
  dc : Nat
  no : Option Addr
  nc : Nat
  vb : Nat
abbrev soRes (a : SA) (l : List Int) : Res := rowRes 79 1 a.so l.length a.sc (ints l)
abbrev dRes (a : SA) (l : List Int) : Res := rowRes 3 1 a.d l.length a.dc (ints l)
abbrev nmRes (a : SA) (l : List ByteArray) : Res := rowRes 9 1 a.no l.length a.nc (strs l)
abbrev srMem (a : SA) (S : Srch) : Mem := [⟨77, [.raw (.slice a.ho S.n a.hc), .raw (.slice a.so (S.L.map sortF).length a.sc), .raw (.slice a.d S.H.length a.dc), .raw (.slice a.no S.Ns.length a.nc), .raw (.map (some a.vb))], true⟩, ⟨55, [.res (paRes a.ho S.L)], true⟩, ⟨79, [.res (soRes a (S.L.map sortF))], true⟩, ⟨3, [.res (dRes a S.H)], true⟩, ⟨9, [.res (nmRes a S.Ns)], true⟩]
def srRes (p : Nat) (a : SA) (S : Srch) : Res := memRes [p, 0, 0, 0, 0] (srMem a S)
theorem aggPasts : aggB Try.prog 22 = some false := by kernel_rfl
theorem aggSorts : aggB Try.prog 74 = some false := by kernel_rfl
theorem aggSort : aggB Try.prog 79 = some false := by kernel_rfl
theorem aggInts : aggB Try.prog 30 = some false := by kernel_rfl
theorem aggStrs : aggB Try.prog 75 = some false := by kernel_rfl
theorem aggVm : aggB Try.prog 73 = some false := by kernel_rfl
section
variable {p : Nat} {a : SA} {S : Srch} {w : World}
theorem sr_cell (h : (srRes p a S).R w) (j : Nat) {u : Value} (hu : [Value.slice a.ho S.n a.hc, .slice a.so (S.L.map sortF).length a.sc, .slice a.d S.H.length a.dc, .slice a.no S.Ns.length a.nc, .map (some a.vb)][j]? = some u) {ad : Addr} (ha : ad = (⟨p, 0, none⟩ : Addr).add j) : w.cell? ad = some u :=
  blk_at (memRes_blk (ids := [p, 0, 0, 0, 0]) (mem := srMem a S) h 0 rfl rfl rfl) hu ha
theorem sr_h (h : (srRes p a S).R w) : (paRes a.ho S.L).R w := memRes_res h 1 rfl rfl
theorem sr_s (h : (srRes p a S).R w) : (soRes a (S.L.map sortF)).R w := memRes_res h 2 rfl rfl
theorem sr_d (h : (srRes p a S).R w) : (dRes a S.H).R w := memRes_res h 3 rfl rfl
theorem sr_n (h : (srRes p a S).R w) : (nmRes a S.Ns).R w := memRes_res h 4 rfl rfl
theorem rw_cell {t : TypeId} {o : Option Addr} {n cap : Nat} {l : List Value} {g : Nat} (h : (rowRes t 1 o n cap l).R w) (ho : o = some ⟨g, 0, none⟩) {i : Nat} {u : Value} (hu : l[i]? = some u) {ad : Addr} (ha : ad = (⟨g, 0, none⟩ : Addr).add (i * 1)) : w.cell? ad = some u := by
  subst ho; subst ha; rw [Nat.mul_one]; exact rowRes_cell h hu
end
/-- What is known of a search. -/
structure Srch.ok (S : Srch) : Prop where
  n : S.n ≤ 12
  ns : S.Ns.length ≤ 12
  h : S.H.length = S.n
  nm : ∀ x ∈ S.Ns, x.size ≤ maxLen
  p : ∀ p ∈ S.L, p.nm.size ≤ maxLen ∧ i64 p.a
  h64 : ∀ x ∈ S.H, i64 x
theorem peek_val (A : All) (nm : ByteArray) : peekV A nm = .tuple #[.int .i64 ((peek3 A nm).getD 0 0), .int .i64 ((peek3 A nm).getD 1 0), .int .i64 ((peek3 A nm).getD 2 0), .bool (mget A nm).isSome] := by
  unfold peekV peek3
  cases mget A nm <;> rfl
theorem peek3_like {A T : All} (h : Same A T) (nm : ByteArray) : peek3 T nm = peek3 A nm := by
  unfold peek3
  cases hm : mget A nm with
  | none =>
    have hT : mget T nm = none := by
      cases hq : mget T nm with
      | none => rfl
      | some s' => obtain ⟨s, h1, _⟩ := h.1 nm s' hq; rw [hm] at h1; cases h1
    rw [hT]
  | some s =>
    obtain ⟨s', h1, h2⟩ := h.2 nm s hm
    rw [h1]
    simp only [Ctr.core, Prod.mk.injEq] at h2
    dsimp only
    rw [h2.1, h2.2.1, h2.2.2.1]
theorem keyF_like {A T : All} (h : Same A T) (S : Srch) (st : Nat) : keyF S st T = keyF S st A := by
  have : ∀ k j m, kcF S T k j m = kcF S A k j m := fun k j m => by unfold kcF; rw [peek3_like h]
  unfold keyF keyL
  simp only [this]
theorem peek3_i64 {A : All} (ok : AllOk A) (nm : ByteArray) (m : Nat) : i64 ((peek3 A nm).getD m 0) := by
  unfold peek3
  cases hm : mget A nm with
  | none =>
    match m with
    | 0 => exact ⟨by decide, by decide⟩
    | 1 => exact ⟨by decide, by decide⟩
    | 2 => exact ⟨by decide, by decide⟩
    | m + 3 => exact ⟨by simp [List.getD], by simp [List.getD]⟩
  | some s =>
    have := ok _ (mget_some hm)
    obtain ⟨v0, h0, sum, cap, _, _⟩ := this
    dsimp only at v0 h0 sum cap
    match m with
    | 0 => exact ⟨by show _ ≤ s.value; omega, by show s.value ≤ _; omega⟩
    | 1 => exact ⟨by show _ ≤ s.held; omega, by show s.held ≤ _; omega⟩
    | 2 => exact ⟨by show _ ≤ s.limit; omega, by show s.limit ≤ _; omega⟩
    | m + 3 => exact ⟨by simp [List.getD], by simp [List.getD]⟩
theorem key_ok {S : Srch} {st : Nat} {A : All} (ok : AllOk A) (hs : st < 4096) : stateE.ok (keyF S st A) := by
  refine ⟨rfl, ?_⟩
  have hk : ∀ j m, i64 (kcF S A S.Ns.length j m) := fun j m => by
    unfold kcF
    split
    · exact peek3_i64 ok _ _
    · exact ⟨by decide, by decide⟩
  have hst : i64 (st : Int) := ⟨by omega, by omega⟩
  intro v hv
  unfold keyF keyL at hv
  simp only [List.mem_cons, List.not_mem_nil, or_false] at hv
  rcases hv with rfl | hv
  · exact hst
  · rcases hv with rfl | rfl | rfl | rfl | rfl | rfl | rfl | rfl | rfl | rfl | rfl | rfl | rfl | rfl | rfl | rfl | rfl | rfl | rfl | rfl | rfl | rfl | rfl | rfl | rfl | rfl | rfl | rfl | rfl | rfl | rfl | rfl | rfl | rfl | rfl | rfl <;> exact hk _ _

abbrev ansL (R : Option (List Nat) × Vm) : List Int := (R.1.getD []).map fun i : Nat => (i : Int)
abbrev oRes (y : Option Addr × Nat) (l : List Int) : Res := rowRes 3 1 y.1 l.length y.2 (ints l)
theorem nil_post {ρ : Res} {vb : Nat} {V : Vm} {c : Ctx} {w' : World} {ids' : List Nat} {mem' : Mem} (hI : Inv c w' ids' mem') (hS : c.S = ρ.fp) (i : Nat) {t : TypeId} (h0 : nth mem' i = some ⟨t, [.res (vmRes vb V)], true⟩) :
    Post ρ ((vmRes vb V).both (oRes (none, 0) [])) c.w0 w' := by
  refine ⟨hS ▸ hI.frm, ⟨hI.res i h0 rfl, rowRes_nil _ _ _, fun x _ hx => by cases hx⟩, fun x hx => ?_, fun x hx => ?_⟩
  · have hx : x ∈ (vmRes vb V).fp := by
      rcases List.mem_append.1 hx with hx | hx
      · exact hx
      · cases hx
    rw [← hS]
    exact hI.own i _ h0 rfl x (by rw [fpOf_res (r := vmRes vb V) rfl]; exact hx)
  · have hx : x ∈ (vmRes vb V).fp := by
      rcases List.mem_append.1 hx with hx | hx
      · exact hx
      · cases hx
    exact hI.resLt i h0 rfl x hx
theorem both_post {ρ τ : Res} {vb : Nat} {V : Vm} {y : Option Addr × Nat} {l : List Int} {c : Ctx} {w' : World} {ids' : List Nat} {mem' : Mem} (hI : Inv c w' ids' mem') (hS : c.S = ρ.fp) (i j : Nat) (hij : i ≠ j) {t t' : TypeId} (h0 : nth mem' i = some ⟨t, [.res ((vmRes vb V).both τ)], true⟩) (h1 : nth mem' j = some ⟨t', [.res (oRes y l)], true⟩) :
    Post ρ ((vmRes vb V).both (oRes y l)) c.w0 w' := by
  refine ⟨hS ▸ hI.frm, ⟨(hI.res i h0 rfl).1, hI.res j h1 rfl, fun x hx => hI.res_res i j hij h0 rfl h1 rfl x (by simp [Res.both, hx])⟩, fun x hx => ?_, fun x hx => ?_⟩
  · rw [← hS]
    rcases List.mem_append.1 hx with hx | hx
    · exact hI.own i _ h0 rfl x (by rw [fpOf_res (r := (vmRes vb V).both τ) rfl]; simp [Res.both, hx])
    · exact hI.own j _ h1 rfl x (by rw [fpOf_res (r := oRes y l) rfl]; exact hx)
  · rcases List.mem_append.1 hx with hx | hx
    · exact hI.resLt i h0 rfl x (by simp [Res.both, hx])
    · exact hI.resLt j h1 rfl x hx

end Go.Proofs.Ytfcbcgjgkleonaa
