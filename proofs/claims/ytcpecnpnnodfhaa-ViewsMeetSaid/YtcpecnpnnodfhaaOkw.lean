/- What an argument's weight tells of its parts. -/
import Derived.Test.YtcpecnpnnodfhaaBnT
namespace Go.Proofs.Ytcpecnpnnodfhaa
open Go.ChangeShapes Go.WideShapes Go.RowKit Go.Deep

section
variable {H : Type} {P : Program}
/-- Every part of it is within the reach. -/
def Okw (P : Program) (t : TypeId) (d : DataW H) : Prop := ∀ n ∈ d.weights P t, n ≤ reachBytes
theorem weightsAll_mem {e : TypeId} : ∀ {es : List (DataW H)} {d : DataW H}, d ∈ es → ∀ n ∈ d.weights P e, n ∈ DataW.weightsAll P e es
  | x :: r, d, h, n, hn => by
    simp only [DataW.weightsAll, List.mem_append]
    rcases List.mem_cons.1 h with rfl | h
    · exact .inl hn
    · exact .inr (weightsAll_mem h n hn)
  | [], _, h, _, _ => by cases h
theorem okw_slice {t e : TypeId} (ht : P.underlying t = some (.slice e)) (es sp : List (DataW H)) (h : Okw P t (.slice es sp)) : es.length * P.bytesOf e ≤ reachBytes ∧ ∀ d ∈ es, Okw P e d := by
  unfold Okw at *
  simp only [DataW.weights, ht] at h
  refine ⟨?_, fun d hd n hn => h n ?_⟩
  · have := h _ (List.mem_cons_self ..)
    rw [Nat.add_mul] at this
    omega
  · exact List.mem_cons_of_mem _ (List.mem_append.2 (.inl (weightsAll_mem hd n hn)))
theorem okw_agg {t u : TypeId} {fs : Array Field} {ps : List (DataW H)} {d : DataW H} (ht : P.underlying t = some (.struct fs)) (h : Okw P t (.agg ps)) (j : Nat) (hu : (fs.toList.map (·.type))[j]? = some u) (hd : ps[j]? = some d) : Okw P u d := by
  unfold Okw at *
  simp only [DataW.weights, ht] at h
  exact fun n hn => h n (DataW.weights_mem_each hu hd n hn)
theorem okw_arg {ts : List TypeId} {ds : List (DataW H)} (hz : (DataW.weightsEach P ts ds).all (· ≤ reachBytes) = true) {j : Nat} {t : TypeId} {d : DataW H} (h1 : ts[j]? = some t) (h2 : ds[j]? = some d) : Okw P t d := fun n hn => by
  simpa using List.all_eq_true.1 hz n (DataW.weights_mem_each h1 h2 n hn)
end
theorem list9 {α : Type} {l : List α} (h : l.length = 9) : ∃ a0 a1 a2 a3 a4 a5 a6 a7 a8, l = [a0, a1, a2, a3, a4, a5, a6, a7, a8] := by
  match l, h with
  | [a0, a1, a2, a3, a4, a5, a6, a7, a8], _ => exact ⟨a0, a1, a2, a3, a4, a5, a6, a7, a8, rfl⟩
end Go.Proofs.Ytcpecnpnnodfhaa
