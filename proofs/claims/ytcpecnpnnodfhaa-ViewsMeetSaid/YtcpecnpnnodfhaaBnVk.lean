/- Chapter 9's law without the document's answer: a digest comes (comes). Chapter 9's law without the document's answer: where in the end all have met. Plain. Chapter 9's law without the document's answer: one thing that happens (step, kind 2; any kind). -/
import Derived.Test.YtcpecnpnnodfhaaBnVj
import Derived.Test.YtcpecnpnnodfhaaVyM
namespace Go.Proofs.Ytcpecnpnnodfhaa
section
set_option maxRecDepth 100000
set_option linter.unusedSimpArgs false
set_option linter.unusedVariables false
set_option maxHeartbeats 8000000
open Go.RowKit

theorem Lt.ok.names {T : Tk} {n N : Nat} {l : Lt} (hT : T.ok n N) (hl : l.ok T.X) : l.f < n ∧ ∀ v ∈ l.L, ∃ j, j < 4 ∧ v.nm = nmK j := by
  obtain ⟨y, hy, h1, h2, h3, h4⟩ := hl
  refine ⟨by rw [← hT.len]; exact (List.getElem?_eq_some_iff.1 hy).1, fun v hv => ?_⟩
  obtain ⟨_, hs, _, _⟩ := hT.rel _ _ hy
  exact hs.nms _ (ownL_nm (h4 v hv)).2
theorem comes_ok {t n N wi : Nat} {T : Tk} {x : Rp} {l : Lt} {w : World} (hT : T.ok n N) (hN : N ≤ 1000) (hS : Said T.X) (hl : l.ok T.X) (hx : T.X[wi]? = some x) (hne : l.f ≠ wi) (hR : (tkRes t T).R w) (hL : ∀ w1, (tkRes t T).R w1 → Frm (tkRes t T).fp w w1 → (readRes l.l.1 (vws l.L)).R w1)
    (hap : ∀ y ∈ x.res.fp, y ∉ (readRes l.l.1 (vws l.L)).fp) : Calls Try.prog 15 #[pV t, .int .i64 (wi : Nat), .agg #[.int .i64 (l.f : Nat), .slice l.l.1 l.L.length l.l.2]] w fun e w' => e = .returned (.bool true) ∧ Post (tkRes t T) (tkRes t { T with X := T.X.set wi (x.taken l.f l.L) }) w w' := by
  obtain ⟨hf, hnm⟩ := hl.names hT
  have hn := hT.nn
  have hlen := hT.len
  have hwi : wi < n := by rw [← hlen]; exact (List.getElem?_eq_some_iff.1 hx).1
  obtain ⟨hv, hs, hm, ha⟩ := hT.rel wi x hx
  obtain ⟨yl, hyl, hl1, hl2, hl3, hl4⟩ := id hl
  have hnr := hv.rn
  have hz := take_zero hs (k := (l.f : Int)) (L := l.L) ⟨by omega, by omega, by omega⟩ hl1 hl2 hl3
  have hT' : ({ T with X := T.X.set wi (x.taken l.f l.L) } : Tk).ok n (N + 1) := ok_take hT hx hne hl1 hnm
  have hS' : Said ({ T with X := T.X.set wi (x.taken l.f l.L) } : Tk).X := take_said hS hx hl rfl
  have hx' : ({ T with X := T.X.set wi (x.taken l.f l.L) } : Tk).X[wi]? = some (x.taken l.f l.L) := List.getElem?_set_self (by rw [hlen]; omega)
  have hgv : ∃ g, ({ T with X := T.X.set wi (x.taken l.f l.L) } : Tk).vo = some ⟨g, 0, none⟩ := rowRes_some' (memRes_res hR 1 rfl rfl) (by omega)
  obtain ⟨gv, hgv'⟩ := hgv
  have hgv : T.vo = some ⟨gv, 0, none⟩ := hgv'
  have hI : Inv (cx 69 [(7, .of [(0, []), (1, []), (2, []), (3, []), (4, []), (5, []), (6, []), (8, []), (7, [6, 3]), (9, []), (10, []), (11, [])])] (tkRes t T).fp w) w [0] [⟨41, [.res (tkRes t T)], true⟩] := (Inv.nil w).consR (by simp) hR (memRes_lt hR) (fun _ x hx => hx)
  refine calls_sm (cx 69 [(7, .of [(0, []), (1, []), (2, []), (3, []), (4, []), (5, []), (6, []), (8, []), (7, [6, 3]), (9, []), (10, []), (11, [])])] (tkRes t T).fp w) (vals := [.raw (pV t), .int .i64 (wi : Nat), .agg [.int .i64 (l.f : Nat), .raw (.slice l.l.1 l.L.length l.l.2)]]) mixed Try.func15 rfl rfl rfl hI rfl (st rfl ?_); conv => arg 3; whnf
  refine gw ?_
  (refine n_ldA (.raw (.slice (some ⟨gv, 0, none⟩) (T).X.length (T).vc)) rfl (by first | exact trivial | rfl) rfl (fun _ w1 _ hI1 => (by rw [← hgv]; exact load_cell aggVp (tk_v (memRes_res (hI1.res 0 rfl rfl) 0 rfl rfl) rfl))) ?_; (refine gs ?_))
  refine gw ?_
  (refine n_ldA (.raw (pV (x).v)) rfl (by first | exact trivial | rfl) rfl (fun _ w1 _ hI1 => load_cell aggPv (rowRes_cell (hgv ▸ memRes_res (hI1.res 0 rfl rfl) 1 rfl rfl) (by rw [Nat.mul_one, List.getElem?_map, Int.toNat_natCast, hx]; rfl))) ?_; (refine gs ?_))
  refine gw ?_
  refine n_call1 rfl fun bl => ?_
  refine n_callR (Y := Unit) 0 (fun _ => tkRes t { T with X := T.X.set wi (x.taken l.f l.L) }) (fun _ => .tup [.int .i64 (x.r.take l.f l.L).2.1, .int .i64 0]) (fun _ => .tuple #[.int .i64 (x.r.take l.f l.L).2.1, .int .i64 0]) (fun _ => True) rfl rfl (fun _ => rfl) rfl rfl rfl (fun _ w1 _ hI1 hR1 =>
    (tk_take hT hR1 hx (l.f : Int) (by constructor <;> omega) rfl l.l.2 (hL w1 hR1 hI1.frm) hap (by omega)).mono fun e w' ⟨he, hP⟩ => ⟨(), by rw [he, hz], trivial, hP⟩) ?_
  intro _ _
  generalize ({ T with X := T.X.set wi (x.taken l.f l.L) } : Tk) = T' at hT' hS' hx' hgv'
  generalize x.taken l.f l.L = x' at hx'
  obtain ⟨hv', hs', hm', ha'⟩ := hT'.rel wi x' hx'
  have hlen' := hT'.len
  (refine gs ?_)
  refine gw ?_
  refine n_loop (σ := Nat) (fun k => [(0, .raw (pV t)), (1, .int .i64 (wi : Nat)), (5, .ptr 1 0), (9, .int .i64 (k : Nat))]) (fun _ => [⟨41, [.res (tkRes t T')], true⟩, ⟨44, [.int .i64 (l.f : Nat), .raw (.slice l.l.1 l.L.length l.l.2)], true⟩]) (fun k => k ≤ 4) (fun k => 4 - k) 0 mixed (by omega) (fun _ _ => rfl) rfl (by (repeat (first | exact trivial | refine ⟨⟨rfl, rfl⟩, ?_⟩))) (fun s _ => ⟨by (repeat (first | exact trivial | refine ⟨⟨_, rfl⟩, ?_⟩)), by (repeat (first | exact trivial | refine ⟨⟨_, rfl⟩, ?_⟩))⟩) fun k hk => ?_
  (refine gs ?_)
  by_cases hk4 : k < 4
  · have ek : IntKind.i64.wrap ((k : Int) + 1) = ((k + 1 : Nat) : Int) := by rw [w64 (by omega) (by omega)]; simp
    have hgd : (#[Value.string (nmK 0), Value.string (nmK 1), Value.string (nmK 2), Value.string (nmK 3)] : Array Value).getD ((k : Int).toNat * 1) Go.undef = .string (nmK k) := by
      have hk' : k = 0 ∨ k = 1 ∨ k = 2 ∨ k = 3 := by omega
      rcases hk' with rfl | rfl | rfl | rfl <;> rfl
    have hj32 : l.f * 4 + k < 32 := by omega
    have hrow : T'.rows[l.f * 4 + k]? = some (vRow (T'.S (l.f * 4 + k)).1 (hadL T'.X (l.f * 4 + k)).length (T'.S (l.f * 4 + k)).2 (vws (hadL T'.X (l.f * 4 + k)))) := by
      rw [List.getElem?_map, List.getElem?_range hj32]; rfl
    have hpl := said_known hS' (f := l.f) hx' hk4
    (repeat ((first | refine n_must rfl ?_ | refine n_chk (drawF_ok (by decide +kernel)) ?_ | refine n_same rfl ?_ | ((first | refine n_must ?_ ?_ | refine n_brT ?_ ?_); (focus (first | (simp [hk4]; done) | (simp [hk4]; omega) | (simp only [hk4]; simp; done)))) | (refine n_brF ?_ ?_; (focus (first | (simp [hk4]; done) | (simp [hk4]; omega) | (simp only [hk4]; simp; done)))) | refine n_must (by (with_reducible refine and_shape ?_) <;> kernel_rfl) ?_); (refine gs ?_)))
    (refine n_ldA (.raw (.slice (some ⟨gv, 0, none⟩) (T').X.length (T').vc)) rfl (by first | exact trivial | rfl) rfl (fun _ w1 _ hI1 => (by rw [← hgv']; exact load_cell aggVp (tk_v (memRes_res (hI1.res 0 rfl rfl) 0 rfl rfl) rfl))) ?_; (refine gs ?_))
    refine gw ?_
    (refine n_ldA (.raw (pV (x').v)) rfl (by first | exact trivial | rfl) rfl (fun _ w1 _ hI1 => load_cell aggPv (rowRes_cell (hgv' ▸ memRes_res (hI1.res 0 rfl rfl) 1 rfl rfl) (by rw [Nat.mul_one, List.getElem?_map, Int.toNat_natCast, hx']; rfl))) ?_; (refine gs ?_))
    refine gw ?_
    refine n_sameP (.raw (.agg #[.string (nmK 0), .string (nmK 1), .string (nmK 2), .string (nmK 3)])) rfl rfl rfl (fun _ w1 hp1 hI1 => names_n w1) ?_; (refine gs ?_)
    refine gw ?_
    (refine n_ldA (.raw (pV x'.v)) rfl (by first | exact trivial | rfl) rfl (fun _ w1 _ hI1 => load_cell aggPv (rowRes_cell (hgv' ▸ memRes_res (hI1.res 0 rfl rfl) 1 rfl rfl) (by rw [Nat.mul_one, List.getElem?_map, Int.toNat_natCast, hx']; rfl))) ?_; (refine gs ?_))
    refine gw ?_
    (refine n_ldA (.raw (.slice (some ⟨gv, 0, none⟩) T'.X.length T'.vc)) rfl (by first | exact trivial | rfl) rfl (fun _ w1 _ hI1 => (by rw [← hgv']; exact load_cell aggVp (tk_v (memRes_res (hI1.res 0 rfl rfl) 0 rfl rfl) rfl))) ?_; (refine gs ?_))
    refine gw ?_
    rw [hgd]
    conv => arg 3; whnf
    refine gw ?_
    have hKn : ∀ {w1 : World}, (tkRes t T').R w1 → Calls Try.prog 19 #[pV x'.v, .string (nmK k)] w1 fun e w' => ∃ y : Nat, e = .returned (.slice (some ⟨y, 0, none⟩) n n) ∧ True ∧ FreshR w1 w' (cellsRes y ((knownL x'.s.V (nmK k) n).flatMap rtL) 47) := fun hR1 => by
      have h := Known_ok (tk_res hR1 hx') (by rw [hv'.len]; omega) (nmK k) (nmK_len k hk4)
      rw [hv'.len] at h
      exact h
    refine n_callN (fun y : Nat => cellsRes y ((knownL x'.s.V (nmK k) n).flatMap rtL) 47) 47 (fun y => .raw (.slice (some ⟨y, 0, none⟩) n n)) (fun y => .slice (some ⟨y, 0, none⟩) n n) (fun _ => True) rfl rfl rfl (fun _ => rfl) (fun w1 hI1 => hKn (hI1.res 0 rfl rfl)) ?_
    intro yk _ _
    have hkf : (knownL x'.s.V (nmK k) n)[l.f]? = some ((lastF x'.r.All (l.f : Int) (nmK k)).d, (lastF x'.r.All (l.f : Int) (nmK k)).u) := by
      rw [known_like hv']
      unfold rKnownL rKnownF
      rw [List.getElem?_map, List.getElem?_range hf]; rfl
    generalize knownL x'.s.V (nmK k) n = KL at hkf
    generalize lastF x'.r.All (l.f : Int) (nmK k) = z at hkf hpl
    (refine gs ?_)
    refine gw ?_
    (refine n_ldA (.raw (.slice (some ⟨gv, 0, none⟩) T'.X.length T'.vc)) rfl (by first | exact trivial | rfl) rfl (fun _ w1 _ hI1 => (by rw [← hgv']; exact load_cell aggVp (tk_v (memRes_res (hI1.res 0 rfl rfl) 0 rfl rfl) rfl))) ?_; (refine gs ?_))
    have hll : (n : Int) = (T'.X.length : Nat) := by rw [hlen']
    (repeat ((first | refine n_must rfl ?_ | refine n_chk (drawF_ok (by decide +kernel)) ?_ | refine n_same rfl ?_ | ((first | refine n_must ?_ ?_ | refine n_brT ?_ ?_); (focus (first | (simp [hll]; done) | (simp [hll]; omega) | (simp only [hll]; simp; done)))) | (refine n_brF ?_ ?_; (focus (first | (simp [hll]; done) | (simp [hll]; omega) | (simp only [hll]; simp; done)))) | refine n_must (by (with_reducible refine and_shape ?_) <;> kernel_rfl) ?_); (refine gs ?_)))
    generalize hO : hadL T'.X (l.f * 4 + k) = O at hrow hpl
    have hOl : O.length ≤ 1000000 := by
      rw [← hO]
      unfold hadL
      split
      · rename_i z' hz'
        have h1 := ownL_le z'.r.All z'.r.me (nmK ((l.f * 4 + k) % 4))
        obtain ⟨_, _, _, h2⟩ := hT'.rel _ z' hz'
        omega
      · simp
    (refine n_ldA (.raw (.slice (T'.S (l.f * 4 + k)).1 O.length (T'.S (l.f * 4 + k)).2)) rfl (by first | exact trivial | rfl) rfl (fun _ w1 _ hI1 => (by rw [← hO]; exact load_cell aggVws9 (tk_had (memRes_res (hI1.res 0 rfl rfl) 0 rfl rfl) hj32 (by rw [Int.toNat_natCast, Int.toNat_natCast, add_mk2, add_mk2, add_mk2]; congr 1; show 0 + 1 + l.f * 4 + k * 1 = _; omega)))) ?_; (refine gs ?_))
    refine gw ?_
    (refine n_ldA (.agg [.int .i64 z.d, .int .i64 z.u]) rfl (by first | exact trivial | rfl) rfl (fun _ w1 _ hI1 => load_row (l := rtL (z.d, z.u)) aggRt9 sizeRt (fun j u hu => cellsRes_at (hI1.res 2 rfl rfl) (j := l.f * 2 + j) (by rw [flat_at rt_len hkf ((List.getElem?_eq_some_iff.1 hu).1)]; exact hu) (by rw [Int.toNat_natCast, add_add]))) ?_; (refine gs ?_))
    refine gw ?_
    refine n_sameP (.int .i64 (placeA O (z.d, z.u) O.length)) rfl rfl rfl (fun _ w1 hp1 hI1 => place_ok hOl (all_at (memRes_res (hI1.res 0 rfl rfl) 3 rfl rfl) hrow) z.d z.u) ?_; (refine gs ?_)
    have hpl' : ¬ placeA O (z.d, z.u) O.length < 0 := by omega
    (repeat ((first | refine n_must rfl ?_ | refine n_chk (drawF_ok (by decide +kernel)) ?_ | refine n_same rfl ?_ | ((first | refine n_must ?_ ?_ | refine n_brT ?_ ?_); (focus (first | (simp [hpl']; done) | (simp [hpl']; omega) | (simp only [hpl']; simp; done)))) | (refine n_brF ?_ ?_; (focus (first | (simp [hpl']; done) | (simp [hpl']; omega) | (simp only [hpl']; simp; done)))) | refine n_must (by (with_reducible refine and_shape ?_) <;> kernel_rfl) ?_); (refine gs ?_)))
    exact n_again ⟨k + 1, by omega, by omega, (by (repeat (first | exact trivial | refine ⟨⟨rfl, rfl⟩, ?_⟩ | refine ⟨⟨rfl, congrArg (SV.int .i64) ek⟩, ?_⟩))), ⟨_, rfl⟩⟩
  · obtain rfl : k = 4 := by omega
    refine gw ?_
    refine n_exit rfl ?_
    (refine gs ?_)
    refine gw ?_
    exact n_ret0 rfl rfl fun ids' w' hp hI' => ⟨rfl, post_res hI' rfl 0 rfl rfl rfl⟩
end
section
set_option maxRecDepth 100000
set_option linter.unusedSimpArgs false
set_option linter.unusedVariables false
open Go.RowKit

/-- What a replica said of a name is numbered. -/
def Num (r : Rv) : Prop := ∀ nm (i : Nat) v, (ownL r.All r.me nm)[i]? = some v → v.ver = (i : Int) + 1
theorem num_say {r : Rv} (h : Num r) (k : Nat) (d u hh : Int) : Num (sayF r k d u hh) := by
  unfold sayF
  split
  · exact h
  · intro nm i v hv
    dsimp only at hv
    rw [ownL_app] at hv
    split at hv
    · rename_i hn
      by_cases hi : i < (ownL r.All r.me nm).length
      · rw [List.getElem?_append_left hi] at hv
        exact h nm i v hv
      · rw [List.getElem?_append_right (by omega)] at hv
        have h0 : i - (ownL r.All r.me nm).length = 0 := by
          have := (List.getElem?_eq_some_iff.1 hv).1
          simp at this; omega
        rw [h0] at hv
        simp at hv
        subst hv
        have e : nm = nmK k := hn.2.symm
        subst e
        dsimp only
        have : i = (ownL r.All r.me (nmK k)).length := by omega
        rw [this]
    · rw [List.append_nil] at hv
      exact h nm i v hv
theorem num_take {r : Rv} (h : Num r) (k : Int) (L : List Vw) : Num (r.take k L).1 := fun nm i v hv => by
  rw [take_own'] at hv
  exact h nm i v hv
/-- The talk at any time. -/
structure TkI (T : Tk) (n N : Nat) : Prop where
  ok : T.ok n N
  said : Said T.X
  lets : ∀ l ∈ T.T, l.ok T.X
  right : ∀ (i : Nat) x, T.X[i]? = some x → ∀ e ∈ x.r.All, rightB e.2 = true
  num : ∀ (i : Nat) x, T.X[i]? = some x → Num x.r
  tl : T.T.length ≤ N
theorem TkI.new {n : Nat} {vo : Option Addr} {vc : Nat} {X : List Rp} (hn : 2 ≤ n ∧ n ≤ 8) (hl : X.length = n) (h : FreshX n X) : TkI (Tk.new vo vc X) n 0 := by
  refine ⟨new_tk_ok (N := 0) hn hl h, fun i x hx e he => ?_, fun l hl => by simp [Tk.new] at hl, fun i x hx e he => ?_, fun i x hx nm j v hv => ?_, by simp [Tk.new]⟩
  all_goals
    obtain ⟨v, mb, nb, rfl⟩ := h i x hx
    first | (simp [newRp] at he; done) | (simp [newRp, ownL] at hv; done)
theorem get_set {X : List Rp} {i j : Nat} {x x' y : Rp} (hx : X[i]? = some x) (hy : (X.set i x')[j]? = some y) : (j = i ∧ y = x') ∨ (j ≠ i ∧ X[j]? = some y) := by
  rw [List.getElem?_set] at hy
  split at hy
  · rename_i e
    subst e
    simp only [(List.getElem?_eq_some_iff.1 hx).1, if_true] at hy
    cases hy
    exact .inl ⟨rfl, rfl⟩
  · rename_i e
    exact .inr ⟨fun h => e h.symm, hy⟩
theorem TkI.say {T : Tk} {n N wi : Nat} (h : TkI T n N) (hN : N ≤ 1000) {x : Rp} (hx : T.X[wi]? = some x) (S' : Nat → Option Addr × Nat) (s : Sy) :
    TkI (T.saidW wi (x, S') (withinF s.nm 0 3).toNat (withinF s.d 0 30) (withinF s.u 0 30) (withinF s.h 0 30)) n (N + 1) := by
  have b1 := within_le (x := s.nm) (show (0 : Int) ≤ 3 by omega)
  have b2 := within_le (x := s.d) (show (0 : Int) ≤ 30 by omega)
  have b3 := within_le (x := s.u) (show (0 : Int) ≤ 30 by omega)
  have b4 := within_le (x := s.h) (show (0 : Int) ≤ 30 by omega)
  have hme := (h.ok.rel wi x hx).2.2.1
  have hm : (x.say (withinF s.nm 0 3).toNat (withinF s.d 0 30) (withinF s.u 0 30) (withinF s.h 0 30)).r.me = x.r.me := (say_len x.r _ _ _ _).2.1
  refine ⟨ok_say h.ok hN hx (by omega) b2 b3 b4, say_said h.said hx hme _ _ _ _, fun l hl => (h.lets l hl).set hx fun v nm hv => ?_, fun j y hy => ?_, fun j y hy => ?_, Nat.le_succ_of_le h.tl⟩
  · rw [hm]
    show v ∈ ownL (sayF x.r _ _ _ _).All x.r.me nm
    unfold sayF
    split
    · exact hv
    · rw [ownL_app]; exact List.mem_append_left _ hv
  · rcases get_set hx hy with ⟨rfl, rfl⟩ | ⟨_, hy⟩
    · intro e he
      have he' : e ∈ (sayF x.r (withinF s.nm 0 3).toNat (withinF s.d 0 30) (withinF s.u 0 30) (withinF s.h 0 30)).All := he
      unfold sayF at he'
      split at he'
      · exact h.right j x hx e he'
      · rcases List.mem_append.1 he' with he' | he'
        · exact h.right j x hx e he'
        · rw [List.mem_singleton] at he'
          subst he'
          exact right_xK (by omega) b2 b3 b4 (by omega)
    · exact h.right j y hy
  · rcases get_set hx hy with ⟨rfl, rfl⟩ | ⟨_, hy⟩
    · exact num_say (h.num j x hx) _ _ _ _
    · exact h.num j y hy
theorem TkI.send {T : Tk} {n N wi : Nat} (h : TkI T n N) {x : Rp} (hx : T.X[wi]? = some x) (so : Option Addr) (sc : Nat) (l : Option Addr × Nat) : TkI { T with so := so, sc := sc, T := T.T ++ [⟨wi, l, digU x.r 4⟩] } n (N + 1) := by
  refine ⟨⟨h.ok.len, h.ok.nn, fun i y hy => by obtain ⟨a, b, c, d⟩ := h.ok.rel i y hy; exact ⟨a, b, c, by omega⟩⟩, h.said, fun m hm => ?_, h.right, h.num, ?_⟩
  · rcases List.mem_append.1 hm with hm | hm
    · exact h.lets m hm
    · rw [List.mem_singleton] at hm
      subst hm
      exact dig_ok hx (h.right wi x hx) l
  · have := h.tl
    simp; omega
theorem TkI.take {T : Tk} {n N wi : Nat} (h : TkI T n N) {x : Rp} (hx : T.X[wi]? = some x) {l : Lt} (hl : l.ok T.X) (hne : l.f ≠ wi) : TkI { T with X := T.X.set wi (x.taken l.f l.L) } n (N + 1) := by
  obtain ⟨hf, hnm⟩ := hl.names h.ok
  obtain ⟨yl, hyl, hl1, hl2, hl3, hl4⟩ := id hl
  refine ⟨ok_take h.ok hx hne hl1 hnm, take_said h.said hx hl rfl, fun m hm => (h.lets m hm).set hx fun v nm hv => ?_, fun j y hy => ?_, fun j y hy => ?_, Nat.le_succ_of_le h.tl⟩
  · show v ∈ ownL (x.r.take l.f l.L).1.All (x.r.take l.f l.L).1.me nm
    rw [take_own']; exact hv
  · rcases get_set hx hy with ⟨rfl, rfl⟩ | ⟨_, hy⟩
    · intro e he
      obtain ⟨m, h1, _, h3, _⟩ := take_app x.r (l.f : Int) l.L
      have he' : e ∈ (x.r.take l.f l.L).1.All := he
      rw [h1] at he'
      rcases List.mem_append.1 he' with he' | he'
      · exact h.right j x hx e he'
      · exact hl3 _ (h3 e he').2
    · exact h.right j y hy
  · rcases get_set hx hy with ⟨rfl, rfl⟩ | ⟨_, hy⟩
    · exact num_take (h.num j x hx) _ _
    · exact h.num j y hy
theorem TkI.mono {T : Tk} {n N M : Nat} (h : TkI T n N) (hm : N ≤ M) : TkI T n M :=
  ⟨⟨h.ok.len, h.ok.nn, fun i y hy => by obtain ⟨a, b, c, d⟩ := h.ok.rel i y hy; exact ⟨a, b, c, by omega⟩⟩, h.said, h.lets, h.right, h.num, Nat.le_trans h.tl hm⟩

/-! ### All have met -/
theorem takes_last {k : Int} {nm : ByteArray} : ∀ {L : List Vw} (A : List (Int × Vw)) (q : Nat), RisV L → (∀ v ∈ L, v.nm = nm → lastF (L.foldl (take1R k) (A, q)).1 k nm = if (lastF A k nm).ver < v.ver then v else lastF A k nm) ∧ ((∀ v ∈ L, v.nm ≠ nm) → lastF (L.foldl (take1R k) (A, q)).1 k nm = lastF A k nm)
  | [], A, q, _ => ⟨fun v hv => (by cases hv), fun _ => rfl⟩
  | x :: L, A, q, hr => by
    obtain ⟨h1, h2⟩ := List.pairwise_cons.1 hr
    have hx : lastF (take1R k (A, q) x).1 k nm = if x.nm = nm ∧ (lastF A k x.nm).ver < x.ver then x else lastF A k nm := by
      unfold take1R
      dsimp only
      split
      · rename_i hlt
        rw [lastF_app]
        unfold lastStep
        by_cases e : x.nm = nm
        · rw [if_pos ⟨rfl, e⟩, if_pos ⟨e, hlt⟩]
        · rw [if_neg fun h => e h.2, if_neg fun h => e h.1]
      · rename_i hlt
        rw [if_neg fun h => hlt h.2]
    obtain ⟨i1, i2⟩ := takes_last (k := k) (nm := nm) (take1R k (A, q) x).1 (take1R k (A, q) x).2 h2
    rw [List.foldl_cons]
    refine ⟨fun v hv hn => ?_, fun hv => ?_⟩
    · rcases List.mem_cons.1 hv with rfl | hv
      · have hq : ∀ y ∈ L, y.nm ≠ nm := fun y hy e => by
          have := h1 y hy
          rw [e, hn, ltS_irrefl] at this
          cases this
        refine (i2 hq).trans ?_
        rw [hx]
        by_cases hlt : (lastF A k nm).ver < v.ver
        · have hc : v.nm = nm ∧ (lastF A k v.nm).ver < v.ver := ⟨hn, by rw [hn]; exact hlt⟩
          rw [if_pos hc, if_pos hlt]
        · have hc : ¬ (v.nm = nm ∧ (lastF A k v.nm).ver < v.ver) := fun h => hlt (by have := h.2; rwa [hn] at this)
          rw [if_neg hc, if_neg hlt]
      · have hne : ¬ (x.nm = nm ∧ (lastF A k x.nm).ver < x.ver) := fun e => by
          have := h1 v hv
          rw [e.1, hn, ltS_irrefl] at this
          cases this
        have h3 := i1 v hv hn
        rw [hx, if_neg hne] at h3
        exact h3
    · have hne : ¬ (x.nm = nm ∧ (lastF A k x.nm).ver < x.ver) := fun h => hv x (by simp) h.1
      refine (i2 fun y hy => hv y (by simp [hy])).trans ?_
      rw [hx, if_neg hne]
/-- What the replica u said last of a name. -/
def lastX (X : List Rp) (u k : Nat) : Vw := match X[u]? with
  | some y => lastF y.r.All (u : Int) (nmK k)
  | none => Vw.zero
theorem take_meets {T : Tk} {n N wi u : Nat} (h : TkI T n N) {x y : Rp} (hx : T.X[wi]? = some x) (hy : T.X[u]? = some y) (hne : u ≠ wi) {k : Nat} (hk : k < 4) :
    lastF (x.r.take (u : Int) (digU y.r 4)).1.All (u : Int) (nmK k) = lastF y.r.All (u : Int) (nmK k) := by
  obtain ⟨hv, hs, hm, ha⟩ := h.ok.rel wi x hx
  obtain ⟨hv2, hs2, hm2, ha2⟩ := h.ok.rel u y hy
  have hl := dig_ok hy (h.right u y hy) (none, 0)
  obtain ⟨yl, hyl, hl1, hl2, hl3, hl4⟩ := hl
  dsimp only at hl1 hl2 hl3
  have hu : u < n := by rw [← h.ok.len]; exact (List.getElem?_eq_some_iff.1 hy).1
  have hw : wi < n := by rw [← h.ok.len]; exact (List.getElem?_eq_some_iff.1 hx).1
  have hrn := hv.rn
  have hn := hs.names (u : Int)
  have hf : freshR x.r.All (u : Int) (digU y.r 4) ≤ (digU y.r 4).length := by unfold freshR; exact List.countP_le_length
  have e : (x.r.take (u : Int) (digU y.r 4)).1.All = (takesR x.r.All (u : Int) (digU y.r 4)).1 := by
    unfold Rv.take
    rw [if_neg (by omega), if_neg (by omega), if_neg (by rw [good_ris hl2 hl3]; simp), if_neg (by omega)]
  rw [e]
  obtain ⟨t1, t2⟩ := takes_last (k := (u : Int)) (nm := nmK k) x.r.All 0 hl2
  have hz : lastF x.r.All (u : Int) (nmK k) = Vw.zero ∨ lastF x.r.All (u : Int) (nmK k) ∈ ownL y.r.All y.r.me (nmK k) := by
    rcases lastF_spec x.r.All (u : Int) (nmK k) with ⟨h1, _⟩ | ⟨h1, h2⟩
    · exact .inl h1
    · obtain ⟨j, z, hz, e1, e2⟩ := h.said wi x hx _ h1
      obtain rfl : u = j := by have : (u : Int) = (j : Int) := e1; omega
      rw [hy] at hz; cases hz
      rw [h2] at e2
      exact .inr e2
  unfold takesR
  cases ho : (ownL y.r.All y.r.me (nmK k)).isEmpty with
  | true =>
    have h0 : ownL y.r.All y.r.me (nmK k) = [] := by simpa using ho
    rw [t2 fun v hv e => by
      obtain ⟨j, hj, rfl⟩ := List.mem_map.1 hv
      obtain ⟨hj1, hj2⟩ := List.mem_filter.1 hj
      have h3 := (lastK_nm (r := y.r) (notT hj2)).1
      rw [h3] at e
      have := nmK_inj j (List.mem_range.1 hj1) k hk e
      subst this
      rw [ho] at hj2; cases hj2]
    rcases hz with hz | hz
    · rw [hz]
      have := last_own y.r.All y.r.me (nmK k)
      rw [h0, hm2] at this
      exact this.symm
    · rw [h0] at hz; cases hz
  | false =>
    obtain ⟨b1, b2⟩ := lastK_nm (r := y.r) ho
    rw [hm2] at b1 b2
    have hin : lastF y.r.All (u : Int) (nmK k) ∈ digU y.r 4 := List.mem_map.2 ⟨k, List.mem_filter.2 ⟨List.mem_range.2 hk, by simp [ho]⟩, by rw [hm2]⟩
    rw [t1 _ hin b1]
    split
    · rfl
    · rename_i hlt
      have hver := hs2.ver (nmK k)
      rw [hm2] at hver
      have hpos := List.length_pos_of_mem b2
      rcases hz with hz | hz
      · rw [hz] at hlt
        exfalso
        have : (0 : Int) < (lastF y.r.All (u : Int) (nmK k)).ver := by omega
        exact hlt this
      · obtain ⟨i, hi⟩ := List.getElem?_of_mem hz
        have hnum := h.num u y hy (nmK k) i _ hi
        have hil := (List.getElem?_eq_some_iff.1 hi).1
        rw [hm2] at hi hil
        have hlast := last_own y.r.All (u : Int) (nmK k)
        rw [List.getLast?_eq_getElem?] at hlast
        have ei : (ownL y.r.All (u : Int) (nmK k)).length - 1 = i := by omega
        rw [ei, hi] at hlast
        exact hlast.symm
/-- As far as the pair (w, u) each has taken the last digest of each other one. -/
def Met (X : List Rp) (n w u : Nat) : Prop := ∀ (w' u' : Nat) x, X[w']? = some x → u' < n → (w' < w ∨ (w' = w ∧ u' < u)) → ∀ k, k < 4 → lastF x.r.All (u' : Int) (nmK k) = lastX X u' k
theorem met_zero (X : List Rp) (n : Nat) : Met X n 0 0 := fun w' u' x _ _ h => by omega
theorem met_row {X : List Rp} {n w : Nat} (h : Met X n w n) : Met X n (w + 1) 0 := fun w' u' x hx hu hc k hk => h w' u' x hx hu (by omega) k hk
theorem met_self {X : List Rp} {n w : Nat} (h : Met X n w w) : Met X n w (w + 1) := fun w' u' x hx hu hc k hk => by
  by_cases e : w' = w ∧ u' = w
  · obtain ⟨rfl, rfl⟩ := e
    unfold lastX
    rw [hx]
  · exact h w' u' x hx hu (by omega) k hk
theorem met_take {T : Tk} {n N w u : Nat} (h : TkI T n N) (hM : Met T.X n w u) {x y : Rp} (hx : T.X[w]? = some x) (hy : T.X[u]? = some y) (hne : u ≠ w) : Met (T.X.set w (x.taken (u : Int) (digU y.r 4))) n w (u + 1) := by
  obtain ⟨m, h1, h2, h3, h4⟩ := take_app x.r (u : Int) (digU y.r 4)
  have hother : ∀ (c : Int) nm, c ≠ (u : Int) → lastF (x.taken (u : Int) (digU y.r 4)).r.All c nm = lastF x.r.All c nm := fun c nm hc => by
    show lastF (x.r.take (u : Int) (digU y.r 4)).1.All c nm = _
    rw [h1]
    exact lastF_skip fun e he hh => hc (hh.1.symm.trans (h3 e he).1)
  have hX : ∀ u' k, lastX (T.X.set w (x.taken (u : Int) (digU y.r 4))) u' k = lastX T.X u' k := fun u' k => by
    unfold lastX
    by_cases e : w = u'
    · subst e
      rw [List.getElem?_set_self (List.getElem?_eq_some_iff.1 hx).1, hx]
      exact hother _ _ (by omega)
    · rw [List.getElem?_set_ne e]
  intro w' u' z hz hu hc k hk
  rw [hX]
  rcases get_set hx hz with ⟨rfl, rfl⟩ | ⟨hne', hz⟩
  · by_cases e : u' = u
    · subst e
      rw [show (x.taken (u' : Int) (digU y.r 4)).r = (x.r.take (u' : Int) (digU y.r 4)).1 from rfl, take_meets h hx hy hne hk]
      unfold lastX
      rw [hy]
    · rw [hother _ _ (by omega)]
      exact hM w' u' x hx hu (by omega) k hk
  · exact hM w' u' z hz hu (by omega) k hk
/-- The sum, and whether there is any. -/
def sumX (X : List Rp) (k : Nat) : Nat → Int
  | 0 => 0
  | u + 1 => sumX X k u + (lastX X u k).d
def isX (X : List Rp) (k : Nat) : Nat → Bool
  | 0 => false
  | u + 1 => isX X k u || decide (0 < (lastX X u k).ver)
theorem met_about {X : List Rp} {n w : Nat} {x : Rp} (hM : Met X n n 0) (hx : X[w]? = some x) (hw : w < n) {k : Nat} (hk : k < 4) : ∀ m, m ≤ n → rAboutD x.r.All (nmK k) m = sumX X k m ∧ rAboutB x.r.All (nmK k) m = isX X k m
  | 0, _ => ⟨rfl, rfl⟩
  | m + 1, hm => by
    obtain ⟨a, b⟩ := met_about hM hx hw hk m (by omega)
    have := hM w m x hx (by omega) (by omega) k hk
    rw [rAboutD, rAboutB, a, b, this]
    exact ⟨rfl, rfl⟩
theorem met_known {X : List Rp} {n w : Nat} {x : Rp} (hM : Met X n n 0) (hx : X[w]? = some x) (hw : w < n) {k : Nat} (hk : k < 4) : rKnownL x.r.All (nmK k) n = (List.range n).map fun u => ((lastX X u k).d, (lastX X u k).u) := by
  unfold rKnownL rKnownF
  refine List.map_congr_left fun u hu => ?_
  rw [hM w u x hx (List.mem_range.1 hu) (by omega) k hk]
/-- What was had last, out of all that was had. -/
theorem had_last {T : Tk} {n N : Nat} (h : TkI T n N) {u k : Nat} (hu : u < n) (hk : k < 4) : lastX T.X u k = (hadL T.X (u * 4 + k)).getLast?.getD Vw.zero ∧ (lastX T.X u k).ver = ((hadL T.X (u * 4 + k)).length : Int) := by
  have hy : T.X[u]? = some (T.X[u]'(by rw [h.ok.len]; exact hu)) := List.getElem?_eq_getElem _
  generalize (T.X[u]'(by rw [h.ok.len]; exact hu)) = y at hy
  obtain ⟨hv, hs, hm, ha⟩ := h.ok.rel u y hy
  unfold lastX hadL
  rw [show (u * 4 + k) / 4 = u by omega, show (u * 4 + k) % 4 = k by omega, hy]
  dsimp only
  rw [hm]
  refine ⟨last_own _ _ _, ?_⟩
  have := hs.ver (nmK k)
  rw [hm] at this
  exact this.symm
theorem last_bound {T : Tk} {n N : Nat} (h : TkI T n N) (u k : Nat) : 0 ≤ (lastX T.X u k).d ∧ (lastX T.X u k).d ≤ 1099511627776 := by
  unfold lastX
  cases hy : T.X[u]? with
  | none => exact ⟨by simp [Vw.zero], by simp [Vw.zero]⟩
  | some y =>
    dsimp only
    rcases lastF_spec y.r.All (u : Int) (nmK k) with ⟨h1, _⟩ | ⟨h1, _⟩
    · rw [h1]; simp [Vw.zero]
    · have := h.right u y hy _ h1
      unfold rightB at this
      rw [Bool.and_eq_true] at this
      have := of_decide_eq_true this.2
      dsimp only [Vw.lin] at this
      omega
theorem sum_bound {T : Tk} {n N : Nat} (h : TkI T n N) (k : Nat) : ∀ m, 0 ≤ sumX T.X k m ∧ sumX T.X k m ≤ 1099511627776 * (m : Int)
  | 0 => by simp [sumX]
  | m + 1 => by
    have := sum_bound h k m
    have := last_bound h m k
    rw [sumX]
    omega
end
section
set_option maxRecDepth 100000
set_option linter.unusedSimpArgs false
set_option linter.unusedVariables false
set_option maxHeartbeats 8000000
open Go.RowKit

theorem aggLt : aggB Try.prog 44 = some true := by kernel_rfl
theorem sizeLt : sizeB Try.prog 44 = some 2 := by kernel_rfl
theorem tk_let {t : Nat} {T : Tk} {j : Nat} {d : Lt} {w : World} (hR : (tkRes t T).R w) (hd : T.T[j]? = some d) : (readRes d.l.1 (vws d.L)).R w := rd_of_row (all_at (memRes_res hR 5 rfl rfl) (i := j) (r := d.res) (by rw [List.getElem?_map, hd]; rfl))
theorem tk_apart {t : Nat} {T : Tk} {i j : Nat} {x : Rp} {d : Lt} {w : World} (hR : (tkRes t T).R w) (hx : T.X[i]? = some x) (hd : T.T[j]? = some d) : ∀ y ∈ x.res.fp, y ∉ (readRes d.l.1 (vws d.L)).fp := fun y hy hy2 => by
  refine hR.2.2 2 5 _ _ rfl rfl (by decide) y ?_ ?_
  · rw [fpOf_res (r := allRes (T.X.map Rp.res)) rfl]
    exact List.mem_flatMap.2 ⟨x.res, List.mem_map.2 ⟨x, List.mem_of_getElem? hx, rfl⟩, hy⟩
  · rw [fpOf_res (r := allRes (T.T.map Lt.res)) rfl]
    exact List.mem_flatMap.2 ⟨d.res, List.mem_map.2 ⟨d, List.mem_of_getElem? hd, rfl⟩, rd_inR hy2⟩
theorem step2_ok {t n N : Nat} {T : Tk} {y : Sy} {w : World} (hT : TkI T n N) (hN : N ≤ 1000) (hy : y.good) (hk : withinF y.k 0 2 = 2) (hR : (tkRes t T).R w) :
    Calls Try.prog 14 #[pV t, y.val] w fun e w' => ∃ T' : Tk, e = .returned (.bool true) ∧ (TkI T' n (N + 1) ∧ T'.vo = T.vo) ∧ Post (tkRes t T) (tkRes t T') w w' := by
  obtain ⟨hlen, hn, hrel⟩ := id hT.ok
  have htl := hT.tl
  obtain ⟨g1, g2, g3, g4, g5, g6, g7⟩ := hy
  have bw := within_le (x := y.who) (show (0 : Int) ≤ (n : Int) - 1 by omega)
  obtain ⟨wi, hwi⟩ := Int.eq_ofNat_of_zero_le bw.1
  rw [hwi] at bw
  have hnn : IntKind.i64.wrap ((T.X.length : Int) - 1) = (n : Int) - 1 := by rw [hlen]; exact w64 (by omega) (by omega)
  have hso : 0 < T.T.length → ∃ g, T.so = some ⟨g, 0, none⟩ := fun h0 => rowRes_some' (memRes_res hR 4 rfl rfl) h0
  have hI : Inv (cx 197 [(6, .then [(1, []), (3, []), (4, []), (6, []), (7, []), (10, []), (11, [])] (.fork 0 [11, 7, 4] (.then [(2, [])] (.fork 5 [11, 7] (.then [] (.fork 8 [11] (.then [(9, [])] (.fork 12 [] (.of [(13, []), (14, []), (15, [])]) (.cons 14 [11] (.of [(12, []), (13, []), (15, [])])))) (.cons 14 [11, 7] (.of [(8, [11]), (9, []), (12, []), (13, []), (15, [])])))) (.cons 14 [11, 7, 4] (.of [(5, [11, 7]), (8, [11]), (9, []), (12, []), (13, []), (15, [])])))) (.cons 14 [11, 7, 4] (.of [(0, [11, 7, 4]), (2, []), (5, [11, 7]), (8, [11]), (9, []), (12, []), (13, []), (15, [])])))), (16, .of [(0, []), (1, []), (2, []), (3, []), (4, []), (7, []), (8, []), (9, []), (5, []), (6, []), (10, []), (11, [])]), (32, .then [(0, []), (1, []), (2, []), (3, []), (4, []), (5, []), (6, []), (7, []), (8, []), (9, []), (10, []), (11, [])] (.fork 12 [3] (.of [(13, []), (14, []), (15, [14, 3]), (16, [])]) (.cons 15 [9, 5, 3] (.of [(12, [3]), (13, []), (14, []), (16, [])]))))] (tkRes t T).fp w) w [0] [⟨41, [.res (tkRes t T)], true⟩] := (Inv.nil w).consR (by simp) hR (memRes_lt hR) (fun _ x hx => hx)
  refine calls_sm (cx 197 [(6, .then [(1, []), (3, []), (4, []), (6, []), (7, []), (10, []), (11, [])] (.fork 0 [11, 7, 4] (.then [(2, [])] (.fork 5 [11, 7] (.then [] (.fork 8 [11] (.then [(9, [])] (.fork 12 [] (.of [(13, []), (14, []), (15, [])]) (.cons 14 [11] (.of [(12, []), (13, []), (15, [])])))) (.cons 14 [11, 7] (.of [(8, [11]), (9, []), (12, []), (13, []), (15, [])])))) (.cons 14 [11, 7, 4] (.of [(5, [11, 7]), (8, [11]), (9, []), (12, []), (13, []), (15, [])])))) (.cons 14 [11, 7, 4] (.of [(0, [11, 7, 4]), (2, []), (5, [11, 7]), (8, [11]), (9, []), (12, []), (13, []), (15, [])])))), (16, .of [(0, []), (1, []), (2, []), (3, []), (4, []), (7, []), (8, []), (9, []), (5, []), (6, []), (10, []), (11, [])]), (32, .then [(0, []), (1, []), (2, []), (3, []), (4, []), (5, []), (6, []), (7, []), (8, []), (9, []), (10, []), (11, [])] (.fork 12 [3] (.of [(13, []), (14, []), (15, [14, 3]), (16, [])]) (.cons 15 [9, 5, 3] (.of [(12, [3]), (13, []), (14, []), (16, [])]))))] (tkRes t T).fp w) (vals := [.raw (pV t), .agg y.sv]) mixed Try.func14 rfl rfl rfl hI rfl (st rfl ?_); conv => arg 3; whnf
  refine gw ?_
  (refine n_ldA (.raw (.slice T.vo T.X.length T.vc)) rfl (by first | exact trivial | rfl) rfl (fun _ w1 _ hI1 => load_cell aggVp (tk_v (memRes_res (hI1.res 0 rfl rfl) 0 rfl rfl) rfl)) ?_; (refine gs ?_))
  refine gw ?_
  refine n_sameP (.int .i64 (wi : Nat)) rfl rfl rfl (fun _ w1 hp1 hI1 => by rw [hnn, ← hwi]; exact within_ok y.who 0 _ g2 (by omega) (by omega) (by omega) w1) ?_; (refine gs ?_)
  refine gw ?_
  refine n_sameP (.int .i64 2) rfl rfl rfl (fun _ w1 hp1 hI1 => (by have h := within_ok y.k 0 2 g1 (by omega) (by omega) (by omega) w1; rw [hk] at h; exact h)) ?_; (refine gs ?_)
  refine gw ?_
  (refine n_ldA (.raw (.slice T.so T.T.length T.sc)) rfl (by first | exact trivial | rfl) rfl (fun _ w1 _ hI1 => load_cell aggLts (tk_s (memRes_res (hI1.res 0 rfl rfl) 0 rfl rfl) rfl)) ?_; (refine gs ?_))
  by_cases h0 : 0 < T.T.length
  · obtain ⟨gso, hgs⟩ := hso h0
    have ba := within_le (x := y.a) (show (0 : Int) ≤ (T.T.length : Int) - 1 by omega)
    obtain ⟨ai, hai⟩ := Int.eq_ofNat_of_zero_le ba.1
    rw [hai] at ba
    have hail : ai < T.T.length := by omega
    have hd : T.T[ai]? = some T.T[ai] := List.getElem?_eq_getElem _
    have hdo := hT.lets _ (List.getElem_mem hail)
    generalize T.T[ai] = d at hd hdo
    have ha1 : IntKind.i64.wrap ((T.T.length : Int) - 1) = (T.T.length : Int) - 1 := w64 (by omega) (by omega)
    obtain ⟨hdf, _⟩ := hdo.names hT.ok
    refine n_brT (decide_eq_true (by omega)) ?_
    (refine gs ?_)
    refine gw ?_
    repeat' (first | (refine n_must (by simp; omega) ?_; (refine gs ?_)) | (refine n_chk (drawF_ok (by decide +kernel)) ?_; (refine gs ?_)) | (refine n_same rfl ?_; (refine gs ?_)) | (refine n_both ?_ ?_ <;> (refine gs ?_)) | (refine n_sameP (.int .i64 (ai : Nat)) rfl rfl rfl (fun _ w1 hp1 hI1 => by rw [ha1, ← hai]; exact within_ok y.a 0 _ g3 (by omega) (by omega) (by omega) w1) ?_; (refine gs ?_)) | (refine n_ldA (.raw (.slice (some ⟨gso, 0, none⟩) T.T.length T.sc)) rfl (by first | exact trivial | rfl) rfl (fun _ w1 _ hI1 => (by rw [← hgs]; exact load_cell aggLts (tk_s (memRes_res (hI1.res 0 rfl rfl) 0 rfl rfl) rfl))) ?_; (refine gs ?_)) | (refine n_ldA (.agg [.int .i64 (d.f : Nat), .raw (.slice d.l.1 d.L.length d.l.2)]) rfl (by first | exact trivial | rfl) rfl (fun _ w1 _ hI1 => load_row (l := d.c) aggLt sizeLt (fun j u hu => row_at lt_len (hgs ▸ memRes_res (hI1.res 0 rfl rfl) 4 rfl rfl) hd (by have := (List.getElem?_eq_some_iff.1 hu).1; simpa using this) hu (by simp only [Int.toNat_natCast]; rw [add_add]))) ?_; (refine gs ?_)))
    all_goals
      have hxw : wi < T.X.length := by omega
      have hx : T.X[wi]? = some T.X[wi] := List.getElem?_eq_getElem hxw
      generalize T.X[wi] = x at hx
      refine n_br (fun hb => ?_) (fun hb => ?_)
      · have hb' : d.f = wi := by have : (d.f : Int) = (wi : Int) := by simpa using hb
                                  omega
        (refine gs ?_)
        refine gw ?_
        exact n_ret0 rfl rfl fun ids' w' hp hI' => ⟨T, ret_bool (by simp [hb']), ⟨hT.mono (by omega), rfl⟩, post_res hI' rfl 0 rfl rfl rfl⟩
      · have hb' : d.f ≠ wi := fun e => by subst e; simp at hb
        (refine gs ?_)
        refine gw ?_
        refine n_callR (Y := Unit) 0 (fun _ => tkRes t { T with X := T.X.set wi (x.taken d.f d.L) }) (fun _ => .bool true) (fun _ => .bool true) (fun _ => True) rfl rfl (fun _ => rfl) rfl rfl rfl (fun _ w1 _ hI1 hR1 =>
          (comes_ok hT.ok hN hT.said hdo hx hb' hR1 (fun w2 hR2 _ => tk_let hR2 hd) (tk_apart hR1 hx hd)).mono fun e w' ⟨he, hP⟩ => ⟨(), he, trivial, hP⟩) ?_
        intro _ _
        (refine gs ?_)
        refine gw ?_
        exact n_ret0 rfl rfl fun ids' w' hp hI' => ⟨_, rfl, ⟨hT.take hx hdo hb', rfl⟩, post_res hI' rfl 0 rfl rfl rfl⟩
  · refine n_brF (decide_eq_false (by omega)) ?_
    (refine gs ?_)
    refine gw ?_
    exact n_ret0 rfl rfl fun ids' w' hp hI' => ⟨T, rfl, ⟨hT.mono (by omega), rfl⟩, post_res hI' rfl 0 rfl rfl rfl⟩
/-- Whatever happens: it goes on. -/
theorem step_ok {t n N : Nat} {T : Tk} {y : Sy} {w : World} (hT : TkI T n N) (hN : N ≤ 1000) (hy : y.good) (hR : (tkRes t T).R w) :
    Calls Try.prog 14 #[pV t, y.val] w fun e w' => ∃ T' : Tk, e = .returned (.bool true) ∧ (TkI T' n (N + 1) ∧ T'.vo = T.vo) ∧ Post (tkRes t T) (tkRes t T') w w' := by
  have bk := within_le (x := y.k) (show (0 : Int) ≤ 2 by omega)
  have hk : withinF y.k 0 2 = 0 ∨ withinF y.k 0 2 = 1 ∨ withinF y.k 0 2 = 2 := by omega
  rcases hk with hk | hk | hk
  · exact (step0_ok hT.ok hN hy hk hR).mono fun e w' ⟨x, S', he, hx, hP⟩ => ⟨_, he, ⟨hT.say hN hx S' y, rfl⟩, hP⟩
  · exact (step1_ok hT.ok hN hy hk hR hT.tl).mono fun e w' ⟨x, so, sc, l, he, hx, hP⟩ => ⟨_, he, ⟨hT.send hx so sc l, rfl⟩, hP⟩
  · exact step2_ok hT hN hy hk hR
end
end Go.Proofs.Ytcpecnpnnodfhaa
