/- Chapter 12's law without the document's answer: replicas as parts of memory; what is called on one of them. Chapter 12's law without the document's answer: who asks, who gives, what is told. Plain. Chapter 12's law without the document's answer: replicas begun. Chapter 12's law without the document's answer: a replica's digest comes to all others (spread). -/
import Derived.Test.YtglafgpjgkphkaaGreatDoorBnGc
import Derived.Test.YtglafgpjgkphkaaGreatDoorVwF
import Derived.Test.YtglafgpjgkphkaaGreatDoorBnGg
namespace Go.Proofs.YtglafgpjgkphkaaGreatDoor
section
set_option maxRecDepth 100000
set_option linter.unusedSimpArgs false
set_option linter.unusedVariables false
set_option maxHeartbeats 4000000
open Go.RowKit

theorem V_le {s : Vs} {r : Rv} {n : Nat} (h : VRel s r n) (hnd : (s.V.map (·.1)).Nodup) : s.V.length ≤ r.All.length := by
  have h1 := nodup_le (m := r.All.map fun e => (e.1, e.2.nm)) hnd fun x hx => by
    obtain ⟨⟨⟨k, nm⟩, y⟩, hy, rfl⟩ := List.mem_map.1 hx
    obtain ⟨j, hj, e⟩ := List.getElem_of_mem hy
    have h1 := (mget_at hnd (p := ((k, nm), y)) (j := j) (by rw [List.getElem?_eq_getElem hj, e])).1
    have h3 := h.is k nm
    dsimp only at h1
    rw [h1] at h3
    simp at h3
    rcases lastF_spec r.All k nm with ⟨h4, _⟩ | ⟨h4, h5⟩
    · rw [h4] at h3; exact absurd rfl h3
    · exact List.mem_map.2 ⟨_, h4, by simp [h5]⟩
  simpa using h1
/-- A replica: its gossip, its ledger, its views; r: the document's views, that only the proof knows. -/
structure Pc where
  p : Nat
  mg : Nat
  g : Gs
  b : Nat
  l : Led
  v : Nat
  mv : Nat
  nv : Nat
  s : Vs
  r : Rv
abbrev Pc.c (x : Pc) : List Value := [pV x.p, pV x.b, pV x.v]
theorem pc_len (x : Pc) : x.c.length = 3 := rfl
abbrev Led.cl (s : Led) : List Value := [.int .i64 s.d, .int .i64 s.u, .int .i64 s.h, .int .i64 s.lim, .int .i64 s.n]
abbrev Pc.rg (x : Pc) : Res := gossRes x.p x.mg x.g
abbrev Pc.rl (x : Pc) : Res := cellsRes x.b x.l.cl 80
abbrev Pc.rv (x : Pc) : Res := viewsRes x.v x.mv x.nv x.s
structure Pl where
  o : Option Addr
  cap : Nat
  X : List Pc
abbrev plMem (P : Pl) : Mem := [⟨34, [.res (rowRes 34 3 P.o P.X.length P.cap (P.X.flatMap Pc.c))], true⟩, ⟨71, [.res (allRes (P.X.map Pc.rg))], true⟩, ⟨80, [.res (allRes (P.X.map Pc.rl))], true⟩, ⟨97, [.res (allRes (P.X.map Pc.rv))], true⟩]
abbrev plRes (P : Pl) : Res := memRes [0, 0, 0, 0] (plMem P)
abbrev Pl.set (P : Pl) (i : Nat) (x : Pc) : Pl := { P with X := P.X.set i x }
section
variable {P : Pl} {i : Nat} {x x' : Pc} {w w' : World}
theorem pl_rg (hR : (plRes P).R w) (hx : P.X[i]? = some x) : x.rg.R w := all_at (memRes_res hR 1 rfl rfl) (by rw [List.getElem?_map, hx]; rfl)
theorem pl_rl (hR : (plRes P).R w) (hx : P.X[i]? = some x) : Blk w x.b x.l.cells 80 := all_at (r := x.rl) (memRes_res hR 2 rfl rfl) (by rw [List.getElem?_map, hx]; rfl)
theorem pl_rv (hR : (plRes P).R w) (hx : P.X[i]? = some x) : x.rv.R w := all_at (memRes_res hR 3 rfl rfl) (by rw [List.getElem?_map, hx]; rfl)
theorem pl_fg (hx : P.X[i]? = some x) : ∀ y ∈ x.rg.fp, y ∈ fpOf [0, 0, 0, 0] 1 ⟨71, [.res (allRes (P.X.map Pc.rg))], true⟩ := fun y hy => by
  rw [fpOf_res (r := allRes (P.X.map Pc.rg)) rfl]
  exact List.mem_flatMap.2 ⟨x.rg, List.mem_map.2 ⟨x, List.mem_of_getElem? hx, rfl⟩, hy⟩
theorem pl_fl (hx : P.X[i]? = some x) : x.b ∈ fpOf [0, 0, 0, 0] 2 ⟨80, [.res (allRes (P.X.map Pc.rl))], true⟩ := by
  rw [fpOf_res (r := allRes (P.X.map Pc.rl)) rfl]
  exact List.mem_flatMap.2 ⟨x.rl, List.mem_map.2 ⟨x, List.mem_of_getElem? hx, rfl⟩, by simp [cellsRes]⟩
theorem pl_fv (hx : P.X[i]? = some x) : ∀ y ∈ x.rv.fp, y ∈ fpOf [0, 0, 0, 0] 3 ⟨97, [.res (allRes (P.X.map Pc.rv))], true⟩ := fun y hy => by
  rw [fpOf_res (r := allRes (P.X.map Pc.rv)) rfl]
  exact List.mem_flatMap.2 ⟨x.rv, List.mem_map.2 ⟨x, List.mem_of_getElem? hx, rfl⟩, hy⟩
theorem pl_inv (hR : (plRes P).R w) (hx : P.X[i]? = some x) : ∀ y ∈ x.rv.fp, y ∈ (plRes P).fp := fun y hy => fpsOf_mem hR.1 (i := 3) rfl y (pl_fv hx y hy)
theorem pl_inl (hR : (plRes P).R w) (hx : P.X[i]? = some x) : x.b ∈ (plRes P).fp := fpsOf_mem hR.1 (i := 2) rfl _ (pl_fl hx)
theorem flat_same (hx : P.X[i]? = some x) (h : x'.c = x.c) : (P.X.set i x').flatMap Pc.c = P.X.flatMap Pc.c := by
  show ((P.X.set i x').map Pc.c).flatten = (P.X.map Pc.c).flatten
  rw [map_same hx h]
theorem pl_g (hR : (plRes P).R w) (hx : P.X[i]? = some x) (hc : x'.c = x.c) (hl : x'.rl = x.rl) (hv : x'.rv = x.rv) (hP : Post x.rg x'.rg w w') : Post (plRes P) (plRes (P.set i x')) w w' := by
  have h2 := post_all (memRes_res hR 1 rfl rfl) (fun y hy => memRes_lt hR y (fpsOf_mem hR.1 (i := 1) (b := ⟨71, [.res (allRes (P.X.map Pc.rg))], true⟩) rfl y (by rw [fpOf_res (r := allRes (P.X.map Pc.rg)) rfl]; exact hy))) (by rw [List.getElem?_map, hx]; rfl) hP
  have h3 := post_in Tryz.prog hR (i := 1) rfl rfl rfl h2
  have E0 : plMem (P.set i x') = setCells (plMem P) 1 [.res (allRes ((P.X.map Pc.rg).set i x'.rg))] := by
    unfold plMem
    dsimp only
    rw [flat_same hx hc, map_same hx hl, map_same hx hv, List.length_set, List.map_set]
    rfl
  show Post (memRes _ _) (memRes _ _) w w'
  rw [E0]; exact h3
theorem pl_l (hR : (plRes P).R w) (hx : P.X[i]? = some x) (hc : x'.c = x.c) (hg : x'.rg = x.rg) (hv : x'.rv = x.rv) (hP : Post x.rl x'.rl w w') : Post (plRes P) (plRes (P.set i x')) w w' := by
  have h2 := post_all (memRes_res hR 2 rfl rfl) (fun y hy => memRes_lt hR y (fpsOf_mem hR.1 (i := 2) (b := ⟨80, [.res (allRes (P.X.map Pc.rl))], true⟩) rfl y (by rw [fpOf_res (r := allRes (P.X.map Pc.rl)) rfl]; exact hy))) (by rw [List.getElem?_map, hx]; rfl) hP
  have h3 := post_in Tryz.prog hR (i := 2) rfl rfl rfl h2
  have E0 : plMem (P.set i x') = setCells (plMem P) 2 [.res (allRes ((P.X.map Pc.rl).set i x'.rl))] := by
    unfold plMem
    dsimp only
    rw [flat_same hx hc, map_same hx hg, map_same hx hv, List.length_set, List.map_set]
    rfl
  show Post (memRes _ _) (memRes _ _) w w'
  rw [E0]; exact h3
theorem pl_v (hR : (plRes P).R w) (hx : P.X[i]? = some x) (hc : x'.c = x.c) (hg : x'.rg = x.rg) (hl : x'.rl = x.rl) (hP : Post x.rv x'.rv w w') : Post (plRes P) (plRes (P.set i x')) w w' := by
  have h2 := post_all (memRes_res hR 3 rfl rfl) (fun y hy => memRes_lt hR y (fpsOf_mem hR.1 (i := 3) (b := ⟨97, [.res (allRes (P.X.map Pc.rv))], true⟩) rfl y (by rw [fpOf_res (r := allRes (P.X.map Pc.rv)) rfl]; exact hy))) (by rw [List.getElem?_map, hx]; rfl) hP
  have h3 := post_in Tryz.prog hR (i := 3) rfl rfl rfl h2
  have E0 : plMem (P.set i x') = setCells (plMem P) 3 [.res (allRes ((P.X.map Pc.rv).set i x'.rv))] := by
    unfold plMem
    dsimp only
    rw [flat_same hx hc, map_same hx hg, map_same hx hl, List.length_set, List.map_set]
    rfl
  show Post (memRes _ _) (memRes _ _) w w'
  rw [E0]; exact h3
theorem nmA_len : nmA.size ≤ maxLen := by decide
theorem rights_pl (hR : (plRes P).R w) (hx : P.X[i]? = some x) : Calls Tryz.prog 11 #[pV x.b] w fun e w' => e = .returned (rtV (x.l.d, x.l.u)) ∧ Frm [] w w' := Rights_ok x.l (pl_rl hR hx)
theorem lacks_pl (hR : (plRes P).R w) (hx : P.X[i]? = some x) : Calls Tryz.prog 20 #[pV x.p, .string nmA] w fun e w' => e = .returned (rtV (x.g.lack nmA)) ∧ Frm [] w w' := Lacks_ok (pl_rg hR hx) nmA nmA_len
def Pc.need (x : Pc) (d u : Int) : Pc := { x with g := x.g.need nmA d u }
theorem need_pl (hR : (plRes P).R w) (hx : P.X[i]? = some x) (d u : Int) : Calls Tryz.prog 8 #[pV x.p, .string nmA, rtV (d, u)] w fun e w' => e = .returned (.tuple #[]) ∧ Post (plRes P) (plRes (P.set i (x.need d u))) w w' :=
  (Need_ok (pl_rg hR hx) nmA nmA_len d u).mono fun e w' ⟨he, hP⟩ => ⟨he, pl_g hR hx (x' := x.need d u) rfl rfl rfl hP⟩
def Pc.tk (x : Pc) (n : Nat) : Gs × Int × (Int × Int) × Bool := x.g.tick nmA x.l.d x.l.u (rKnownL x.r.All nmA n)
def Pc.ticked (x : Pc) (n : Nat) : Pc := { x with g := (x.tk n).1 }
theorem tick_pl {n : Nat} (hR : (plRes P).R w) (hx : P.X[i]? = some x) (hme : -10 ≤ x.g.me ∧ x.g.me ≤ 1000) (hv : VRel x.s x.r n) (hn : n ≤ 1000) : Calls Tryz.prog 14 #[pV x.p, .string nmA, pV x.b, pV x.v] w fun e w' => e = .returned (tickV (x.tk n).2) ∧ Post (plRes P) (plRes (P.set i (x.ticked n))) w w' := by
  have hk : knownL x.s.V nmA x.s.ns.length = rKnownL x.r.All nmA n := by rw [hv.len, known_like hv]
  have h := Tick_ok (pl_rg hR hx) hme (pl_rl hR hx) (pl_rv hR hx) (fun hy => hR.2.2 1 2 _ _ rfl rfl (by decide) _ (pl_fg hx _ hy) (pl_fl hx)) (fun hy => hR.2.2 2 3 _ _ rfl rfl (by decide) _ (pl_fl hx) (pl_fv hx _ hy)) (fun y hy hy2 => hR.2.2 1 3 _ _ rfl rfl (by decide) y (pl_fg hx y hy) (pl_fv hx y hy2)) (by rw [hv.len]; exact hn) nmA nmA_len
  rw [hk] at h
  exact h.mono fun e w' ⟨he, hP⟩ => ⟨he, pl_g hR hx (x' := x.ticked n) rfl rfl rfl hP⟩
def Pc.gave (x : Pc) (d u : Int) : Pc := { x with l := x.l.give d u }
theorem give_pl {b0 : Nat} {a0 a1 a2 : Addr} (hs : Sents b0 w a0 a1 a2) (hB : b0 ≤ w.heap.size) (hb0 : ∀ y ∈ (plRes P).fp, b0 ≤ y) (hR : (plRes P).R w) (hx : P.X[i]? = some x) (ok : x.l.ok) (pg : Value) (d u : Int) :
    Calls Tryz.prog 21 #[pg, pV x.b, rtV (d, u)] w fun e w' => e = .returned (rtV (giveF x.l.d d, giveF x.l.u u)) ∧ Post (plRes P) (plRes (P.set i (x.gave d u))) w w' :=
  (Give2_ok hs (hb0 _ (pl_inl hR hx)) hB pg x.l ok (pl_rl hR hx) d u).mono fun e w' ⟨he, hf, hb⟩ => ⟨he, pl_l hR hx (x' := x.gave d u) rfl rfl rfl (post_cells (l := x.l.cl) (l' := (x.l.give d u).cl) (pl_rl hR hx) hf hb)⟩
def Pc.got (x : Pc) (d u : Int) : Pc := { x with l := (x.l.in_ d u).1 }
theorem in_pl {b0 : Nat} {a0 a1 a2 : Addr} (hs : Sents b0 w a0 a1 a2) (hB : b0 ≤ w.heap.size) (hb0 : ∀ y ∈ (plRes P).fp, b0 ≤ y) (hR : (plRes P).R w) (hx : P.X[i]? = some x) (ok : x.l.ok) (d u : Int) :
    Calls Tryz.prog 19 #[pV x.b, rtV (d, u)] w fun e w' => e = .returned (.int .i64 (x.l.in_ d u).2.num) ∧ Post (plRes P) (plRes (P.set i (x.got d u))) w w' :=
  (In_ok hs (hb0 _ (pl_inl hR hx)) hB x.l ok (pl_rl hR hx) d u).mono fun e w' ⟨he, hf, hb⟩ => ⟨he, pl_l hR hx (x' := x.got d u) rfl rfl rfl (post_cells (l := x.l.cl) (l' := (x.l.in_ d u).1.cl) (pl_rl hR hx) hf hb)⟩
/-- What a replica tells of the counter. -/
abbrev vwK (d u : Int) : Vw := ⟨nmA, 1000, 0, 1, d, u, 0⟩
def Pc.told (x : Pc) (d u : Int) : Pc := { x with s := (x.s.tell (vwK d u)).1, r := (x.r.tell (vwK d u)).1 }
theorem tell_pl {n : Nat} (hR : (plRes P).R w) (hx : P.X[i]? = some x) (hv : VRel x.s x.r n) (hn : n ≤ 1000) (hl : x.r.All.length ≤ 100000) (d u : Int) : Calls Tryz.prog 22 #[pV x.v, .string nmA, .int .i64 1000, .int .i64 0, rtV (d, u), .int .i64 0] w fun e w' => e = .returned (.int .i64 (x.r.tell (vwK d u)).2) ∧ Post (plRes P) (plRes (P.set i (x.told d u))) w w' := by
  have hm := hv.mein
  have hc := hv.cnt x.r.me hv.mein.1 hv.mein.2
  have ht := (tell_like hv hl nmA 1000 0 d u 0).1
  refine (Tell_ok (pl_rv hR hx) (by rw [hv.me, hv.len]; exact hm) (by rw [hv.len]; exact hn) ?_ nmA 1000 0 d u 0 nmA_len).mono fun e w' ⟨he, hP⟩ => ⟨by rw [he, ht], pl_v hR hx (x' := x.told d u) rfl rfl rfl hP⟩
  have := namesF_len x.r.All x.r.me
  rw [hv.me]; omega
def Pc.taken (x : Pc) (k : Int) (L : List Vw) : Pc := { x with s := (x.s.take k L).1, r := (x.r.take k L).1 }
theorem take_pl {n : Nat} (hR : (plRes P).R w) (hx : P.X[i]? = some x) (hv : VRel x.s x.r n) (hn : 2 ≤ n ∧ n ≤ 1000) (hl : x.r.All.length ≤ 100000) (k : Int) (hk : i64 k) {o : Option Addr} {L : List Vw} {m : Nat} (hm : L.length = m) (cap : Nat) (hL : (readRes o (L.flatMap Vw.l)).R w) (hLlt : ∀ y ∈ (readRes o (L.flatMap Vw.l)).fp, y < w.heap.size) (hap : ∀ y ∈ x.rv.fp, y ∉ (readRes o (L.flatMap Vw.l)).fp) :
    Calls Tryz.prog 24 #[pV x.v, .int .i64 k, .slice o m cap] w fun e w' => e = .returned (.tuple #[.int .i64 (x.r.take k L).2.1, .int .i64 (x.r.take k L).2.2]) ∧ Post (plRes P) (plRes (P.set i (x.taken k L))) w w' := by
  subst hm
  have hc : 0 ≤ Go.Proofs.YtglafgpjgkphkaaGreatDoor.cnt x.s.ns k ∧ Go.Proofs.YtglafgpjgkphkaaGreatDoor.cnt x.s.ns k ≤ 500000 := by
    by_cases h : 0 ≤ k ∧ k < n
    · have := hv.cnt k h.1 h.2
      have h2 := namesF_len x.r.All k
      omega
    · unfold Go.Proofs.YtglafgpjgkphkaaGreatDoor.cnt
      by_cases h0 : 0 ≤ k
      · rw [List.getD_eq_getElem?_getD, List.getElem?_eq_none (by rw [hv.len]; omega)]; simp
      · have e : k.toNat = 0 := by omega
        have h3 := hv.cnt 0 (by omega) (by omega)
        unfold Go.Proofs.YtglafgpjgkphkaaGreatDoor.cnt at h3
        rw [e]
        have h2 := namesF_len x.r.All 0
        have h4 : ((0 : Int).toNat) = 0 := rfl
        rw [h4] at h3
        omega
  have ht := take_like hv k L
  exact (Take_ok (pl_rv hR hx) (by rw [hv.len]; omega) k hk hc cap hL hLlt hap).mono fun e w' ⟨he, hP⟩ => ⟨by rw [he, ht.1], pl_v hR hx (x' := x.taken k L) rfl rfl rfl hP⟩
theorem dig_pl {n : Nat} (hR : (plRes P).R w) (hx : P.X[i]? = some x) (hv : VRel x.s x.r n) (hl : x.r.All.length ≤ 100000) :
    Calls Tryz.prog 23 #[pV x.v] w fun e w' => ∃ y : Option Addr × Nat, e = .returned (.slice y.1 (rDigF x.r).length y.2) ∧ True ∧ FreshR w w' (vRow y.1 (rDigF x.r).length y.2 (vws (rDigF x.r))) := by
  have hR' := pl_rv hR hx
  have hnd : (x.s.V.map (·.1)).Nodup := hR'.2.1.nodup
  have hV := V_le hv hnd
  refine (Digest_ok hR' (by omega) (mine_ne hv hnd)).mono fun e w' ⟨y, he, ⟨h1, h2⟩, hf⟩ => ?_
  have := digest_like hv hnd h1 h2
  rw [this] at he hf
  exact ⟨y.1, he, trivial, hf⟩
end
end
section
set_option maxRecDepth 100000
set_option linter.unusedSimpArgs false
set_option linter.unusedVariables false
open Go.RowKit

/-! ### Whom to ask -/
def AskI (me : Int) (l : List Int) (s : Int × Int) : Prop := s = (-1, 0) ∨ (∃ i : Nat, s.1 = (i : Int) ∧ i < l.length ∧ (i : Int) ≠ me ∧ l.getD i 0 = s.2 ∧ 0 < s.2)
theorem lookN_inv {me : Int} {l : List Int} {s : Int × Int} (h : AskI me l s) (fr : Nat) : ∀ k, fr + k ≤ l.length → (∀ j, j < k → ((fr + j : Nat) : Int) ≠ me) → AskI me l (lookN l s fr k)
  | 0, _, _ => h
  | k + 1, hk, hne => by
    have ih := lookN_inv h fr k (by omega) fun j hj => hne j (by omega)
    rw [lookN_next]
    generalize lookN l s fr k = t at ih
    unfold lookS
    split
    · rename_i hlt
      right
      refine ⟨fr + k, rfl, by omega, hne k (by omega), rfl, ?_⟩
      rcases ih with rfl | ⟨i, _, _, _, _, h5⟩
      · exact hlt
      · dsimp only; omega
    · exact ih
theorem askF_spec (me : Int) (l : List Int) : askF me l = -1 ∨ ∃ i : Nat, askF me l = (i : Int) ∧ i < l.length ∧ (i : Int) ≠ me ∧ 0 < l.getD i 0 := by
  have key : ∀ s, AskI me l s → s.1 = -1 ∨ ∃ i : Nat, s.1 = (i : Int) ∧ i < l.length ∧ (i : Int) ≠ me ∧ 0 < l.getD i 0 := by
    rintro s (rfl | ⟨i, h1, h2, h3, h4, h5⟩)
    · exact .inl rfl
    · exact .inr ⟨i, h1, h2, h3, by rw [h4]; exact h5⟩
  unfold askF
  split
  · rename_i h
    exact key _ (lookN_inv (lookN_inv (.inl rfl) _ _ (by omega) fun j hj => by omega) _ _ (by omega) fun j hj => by omega)
  · rename_i h
    exact key _ (lookN_inv (.inl rfl) _ _ (by omega) fun j hj => by omega)
theorem lookN_keep {l : List Int} {s : Int × Int} (fr : Nat) : ∀ k, (∀ j, j < k → l.getD (fr + j) 0 ≤ s.2) → lookN l s fr k = s
  | 0, _ => rfl
  | k + 1, h => by
    rw [lookN_next, lookN_keep fr k fun j hj => h j (by omega)]
    unfold lookS
    rw [if_neg (by have := h k (by omega); omega)]
/-- Where the first alone has some, it is asked. -/
theorem askF_first {me : Nat} {l : List Int} (hm : 0 < me) (hl : me < l.length) (h0 : 0 < l.getD 0 0) (h : ∀ i : Nat, i ≠ 0 → l.getD i 0 = 0) : askF (me : Int) l = 0 := by
  unfold askF
  rw [if_pos (by omega), lookN_keep (s := (-1, 0)) _ _ fun j hj => by rw [h _ (by omega)]; exact Int.le_refl _]
  have e : (me : Int).toNat = 1 + (me - 1) := by omega
  have h1 : lookN l (-1, 0) 0 (1 + (me - 1)) = (0, l.getD 0 0) := by
    have key : ∀ k, lookN l (-1, 0) 0 (1 + k) = (0, l.getD 0 0) := by
      intro k
      induction k with
      | zero =>
        rw [lookN_next]
        show lookS l (-1, 0) 0 = _
        unfold lookS
        rw [if_pos h0]; rfl
      | succ k ih =>
        rw [show 1 + (k + 1) = (1 + k) + 1 by omega, lookN_next, ih]
        unfold lookS
        have hh := h (0 + (1 + k)) (by omega)
        rw [if_neg (by rw [hh]; dsimp only; omega)]
    exact key _
  rw [e, h1]
theorem askF_none {me : Int} {l : List Int} (h : ∀ i : Nat, l.getD i 0 = 0) : askF me l = -1 := askF_zero h me
theorem toF_spec (me wd wu : Int) (K : List (Int × Int)) : toF me wd wu K < 0 ∨ ∃ i : Nat, toF me wd wu K = (i : Int) ∧ i < K.length ∧ (i : Int) ≠ me := by
  have h1 := askF_spec me (K.map (kindF true))
  have h2 := askF_spec me (K.map (kindF false))
  simp only [List.length_map] at h1 h2
  have hc : toF me wd wu K = askF me (K.map (kindF true)) ∨ toF me wd wu K = askF me (K.map (kindF false)) ∨ toF me wd wu K = -1 := by
    unfold toF
    repeat' split
    all_goals first | exact .inl rfl | exact .inr (.inl rfl) | exact .inr (.inr rfl)
  rcases hc with h | h | h
  · rw [h]
    rcases h1 with h | ⟨i, a, b, c, _⟩
    · left; omega
    · exact .inr ⟨i, a, b, c⟩
  · rw [h]
    rcases h2 with h | ⟨i, a, b, c, _⟩
    · left; omega
    · exact .inr ⟨i, a, b, c⟩
  · left; omega
/-! ### A tick -/
/-- What a tick does: what is wanted; whom; what is lacking then. -/
theorem tick_spec {s : Gs} (hnd : (s.m.map (·.1)).Nodup) {d u : Int} {K : List (Int × Int)} (h1 : 0 ≤ (s.lack nmA).1 ∧ (s.lack nmA).1 ≤ 1099511627776) (h2 : 0 ≤ (s.lack nmA).2 ∧ (s.lack nmA).2 ≤ 1099511627776) (hd : 0 ≤ d ∧ d ≤ 1099511627776) (hu : 0 ≤ u ∧ u ≤ 1099511627776) :
    (s.tick nmA d u K).1.me = s.me ∧
    ((max 0 ((s.lack nmA).1 - d) = 0 ∧ max 0 ((s.lack nmA).2 - u) = 0 ∧ (s.tick nmA d u K).2 = (0, (0, 0), false) ∧ (s.tick nmA d u K).1.lack nmA = (0, 0)) ∨
     (¬ (max 0 ((s.lack nmA).1 - d) = 0 ∧ max 0 ((s.lack nmA).2 - u) = 0) ∧ toF s.me (max 0 ((s.lack nmA).1 - d)) (max 0 ((s.lack nmA).2 - u)) K < 0 ∧ (s.tick nmA d u K).2 = (0, (0, 0), false) ∧ (s.tick nmA d u K).1.lack nmA = s.lack nmA) ∨
     (¬ (max 0 ((s.lack nmA).1 - d) = 0 ∧ max 0 ((s.lack nmA).2 - u) = 0) ∧ ¬ toF s.me (max 0 ((s.lack nmA).1 - d)) (max 0 ((s.lack nmA).2 - u)) K < 0 ∧ (s.tick nmA d u K).2 = (toF s.me (max 0 ((s.lack nmA).1 - d)) (max 0 ((s.lack nmA).2 - u)) K, (max 0 ((s.lack nmA).1 - d), max 0 ((s.lack nmA).2 - u)), true) ∧ (s.tick nmA d u K).1.lack nmA = (0, 0))) := by
  have e1 : IntKind.i64.wrap ((s.lack nmA).1 - d) = (s.lack nmA).1 - d := w64 (by omega) (by omega)
  have e2 : IntKind.i64.wrap ((s.lack nmA).2 - u) = (s.lack nmA).2 - u := w64 (by omega) (by omega)
  have hdel : ({ s with m := mdel s.m nmA } : Gs).lack nmA = (0, 0) := by
    unfold Gs.lack
    dsimp only
    rw [mget_del nmA nmA hnd, if_pos rfl]; rfl
  unfold Gs.tick
  rw [e1, e2]
  unfold tickW
  by_cases h : max 0 ((s.lack nmA).1 - d) = 0 ∧ max 0 ((s.lack nmA).2 - u) = 0
  · rw [if_pos h]
    exact ⟨rfl, .inl ⟨h.1, h.2, rfl, hdel⟩⟩
  · rw [if_neg h]
    by_cases ht : toF s.me (max 0 ((s.lack nmA).1 - d)) (max 0 ((s.lack nmA).2 - u)) K < 0
    · rw [if_pos ht]
      exact ⟨rfl, .inr (.inl ⟨h, ht, rfl, rfl⟩)⟩
    · rw [if_neg ht]
      exact ⟨rfl, .inr (.inr ⟨h, ht, rfl, hdel⟩)⟩
/-! ### Views of one counter -/
theorem named_A : namedB nmA = true := by decide +kernel
theorem right_K {d u ver : Int} (hd : 0 ≤ d) (hu : 0 ≤ u) (h : d + u ≤ 1000) (hv : 1 ≤ ver) : rightB ⟨nmA, 1000, 0, ver, d, u, 0⟩ = true := by
  unfold rightB
  rw [named_A, Bool.true_and]
  refine decide_eq_true ?_
  dsimp only [Vw.lin]
  omega
/-- Of one counter alone has been told. -/
structure One (r : Rv) (N : Nat) : Prop where
  nm : ∀ e ∈ r.All, e.2.nm = nmA
  rt : ∀ e ∈ r.All, rightB e.2 = true
  len : r.All.length ≤ N
theorem One.names {r : Rv} {N : Nat} (h : One r N) (k : Int) : (namesF r.All k).length ≤ 1 := by
  have h1 := nodup_le (m := [nmA]) ((namesF_spec k r.All).1.imp fun {a b} hab e => by subst e; rw [ltS_irrefl] at hab; cases hab) fun nm hn => by
    obtain ⟨e, he, _, rfl⟩ := ((namesF_spec k r.All).2 nm).1 hn
    rw [h.nm e he]; simp
  simpa using h1
/-- What a replica says is said. -/
theorem tell_one {r : Rv} {N : Nat} (h : One r N) (hN : N ≤ 100000) (hver : ∀ e ∈ r.All, e.2.ver ≤ N) {d u : Int} (hd : 0 ≤ d) (hu : 0 ≤ u) (hs : d + u ≤ 1000) :
    (r.tell (vwK d u)).2 = 0 ∧ One (r.tell (vwK d u)).1 (N + 1) ∧ (∀ e ∈ (r.tell (vwK d u)).1.All, e.2.ver ≤ N + 1) ∧ (r.tell (vwK d u)).1.me = r.me ∧ (r.tell (vwK d u)).1.n = r.n ∧
      (lastF (r.tell (vwK d u)).1.All r.me nmA).d = d ∧ (lastF (r.tell (vwK d u)).1.All r.me nmA).u = u ∧ 1 ≤ (lastF (r.tell (vwK d u)).1.All r.me nmA).ver ∧ (lastF (r.tell (vwK d u)).1.All r.me nmA).nm = nmA ∧
      ((r.tell (vwK d u)).1 = r ∨ ∃ v : Vw, v.nm = nmA ∧ (r.tell (vwK d u)).1.All = r.All ++ [(r.me, v)] ∧ v.ver = (lastF r.All r.me nmA).ver + 1) := by
  have hr : rightB (vwK d u) = true := right_K hd hu hs (by omega)
  have hn := h.names r.me
  have hl : (lastF r.All r.me nmA = Vw.zero) ∨ ((r.me, lastF r.All r.me nmA) ∈ r.All) := by
    rcases lastF_spec r.All r.me nmA with ⟨h1, _⟩ | ⟨h1, _⟩
    · exact .inl h1
    · exact .inr h1
  have hlv : 0 ≤ (lastF r.All r.me nmA).ver ∧ (lastF r.All r.me nmA).ver ≤ N := by
    rcases hl with h1 | h1
    · rw [h1]; exact ⟨by simp [Vw.zero], by simp [Vw.zero]⟩
    · have a := hver _ h1
      have b := h.rt _ h1
      unfold rightB at b
      rw [Bool.and_eq_true] at b
      have := (of_decide_eq_true b.2).2.2.1
      exact ⟨by dsimp only at this; omega, a⟩
  unfold Rv.tell
  rw [if_neg (by rw [hr]; simp), if_neg (by omega)]
  by_cases hc : 0 < (lastF r.All r.me (vwK d u).nm).ver ∧ (lastF r.All r.me (vwK d u).nm).cap = (vwK d u).cap ∧ (lastF r.All r.me (vwK d u).nm).rc = (vwK d u).rc ∧ (lastF r.All r.me (vwK d u).nm).d = (vwK d u).d ∧ (lastF r.All r.me (vwK d u).nm).u = (vwK d u).u ∧ (lastF r.All r.me (vwK d u).nm).h = (vwK d u).h
  · rw [if_pos hc]
    have hin : (r.me, lastF r.All r.me nmA) ∈ r.All := by
      rcases hl with h1 | h1
      · have h2 := hc.1
        dsimp only at h2
        rw [h1] at h2
        exact absurd h2 (by decide)
      · exact h1
    exact ⟨rfl, ⟨h.nm, h.rt, Nat.le_succ_of_le h.len⟩, fun e he => by have := hver e he; omega, rfl, rfl, hc.2.2.2.1, hc.2.2.2.2.1, (show 1 ≤ (lastF r.All r.me nmA).ver by have : 0 < (lastF r.All r.me nmA).ver := hc.1; omega), h.nm _ hin, .inl rfl⟩
  · rw [if_neg hc]
    have hw : wr ((lastF r.All r.me nmA).ver + 1) = (lastF r.All r.me nmA).ver + 1 := w64 (by omega) (by omega)
    dsimp only
    rw [hw, lastF_app]
    unfold lastStep
    rw [if_pos ⟨rfl, rfl⟩]
    refine ⟨rfl, ⟨fun e he => ?_, fun e he => ?_, by simp; exact h.len⟩, fun e he => ?_, rfl, rfl, rfl, rfl, by dsimp only; omega, rfl, .inr ⟨_, rfl, rfl, rfl⟩⟩
    · rcases List.mem_append.1 he with he | he
      · exact h.nm e he
      · rw [List.mem_singleton] at he; subst he; rfl
    · rcases List.mem_append.1 he with he | he
      · exact h.rt e he
      · rw [List.mem_singleton] at he; subst he; exact right_K hd hu hs (by omega)
    · rcases List.mem_append.1 he with he | he
      · have := hver e he; omega
      · rw [List.mem_singleton] at he; subst he; dsimp only; omega
/-- A digest of one counter. -/
theorem dig_one {s : Vs} {r : Rv} {n N : Nat} (hv : VRel s r n) (h : One r N) (h1 : 1 ≤ (lastF r.All r.me nmA).ver) : rDigF r = [lastF r.All r.me nmA] := by
  unfold rDigF
  have hm : nmA ∈ namesF r.All r.me := by
    rcases lastF_spec r.All r.me nmA with ⟨h2, _⟩ | ⟨h2, h3⟩
    · rw [h2] at h1; exact absurd h1 (by decide)
    · exact ((namesF_spec r.me r.All).2 nmA).2 ⟨_, h2, rfl, h3⟩
  have hl := h.names r.me
  have : namesF r.All r.me = [nmA] := by
    cases hN : namesF r.All r.me with
    | nil => rw [hN] at hm; cases hm
    | cons a l =>
      rw [hN] at hl hm
      cases l with
      | nil => simp at hm; rw [hm]
      | cons b l => simp at hl
  rw [this]; rfl
theorem take_one {r : Rv} {N : Nat} (h : One r N) {k : Int} (hk : 0 ≤ k ∧ k < r.n ∧ k ≠ r.me) {v : Vw} (hv : rightB v = true) (hn : v.nm = nmA) :
    (r.take k [v]).2.2 = 0 ∧ (r.take k [v]).1.me = r.me ∧ (r.take k [v]).1.n = r.n ∧ (r.take k [v]).1.All = if (lastF r.All k nmA).ver < v.ver then r.All ++ [(k, v)] else r.All := by
  have hnm := h.names k
  have hf : freshR r.All k [v] ≤ 1 := by unfold freshR; exact List.countP_le_length
  have hg : goodL [v] = true := by
    unfold goodL
    simp [okAt, hv]
  unfold Rv.take
  rw [if_neg (by omega), if_neg (by simp), if_neg (by rw [hg]; simp), if_neg (by omega)]
  refine ⟨rfl, rfl, rfl, ?_⟩
  unfold takesR
  simp only [List.foldl_cons, List.foldl_nil]
  unfold take1R
  rw [hn]
  split <;> rfl
theorem One.take {r r' : Rv} {N : Nat} (h : One r N) {k : Int} {v : Vw} (hv : rightB v = true) (hn : v.nm = nmA) (e : r'.All = if (lastF r.All k nmA).ver < v.ver then r.All ++ [(k, v)] else r.All) : One r' (N + 1) := by
  rw [show r' = { r' with All := r'.All } from rfl]
  split at e
  · refine ⟨fun x hx => ?_, fun x hx => ?_, ?_⟩
    · rw [e] at hx
      rcases List.mem_append.1 hx with hx | hx
      · exact h.nm x hx
      · rw [List.mem_singleton] at hx; subst hx; exact hn
    · rw [e] at hx
      rcases List.mem_append.1 hx with hx | hx
      · exact h.rt x hx
      · rw [List.mem_singleton] at hx; subst hx; exact hv
    · rw [e]; have := h.len; simp; omega
  · exact ⟨fun x hx => h.nm x (e ▸ hx), fun x hx => h.rt x (e ▸ hx), by rw [e]; have := h.len; omega⟩
end
section
set_option maxRecDepth 100000
set_option linter.unusedSimpArgs false
set_option linter.unusedVariables false
set_option maxHeartbeats 8000000
open Go.RowKit

structure Pc.ok (x : Pc) (i n N : Nat) : Prop where
  gm : x.g.me = (i : Int)
  lo : x.l.ok
  lim : x.l.lim = 1000
  lh : x.l.h = 0
  lk : (0 ≤ (x.g.lack nmA).1 ∧ (x.g.lack nmA).1 ≤ 1000) ∧ 0 ≤ (x.g.lack nmA).2 ∧ (x.g.lack nmA).2 ≤ 1000
  vr : VRel x.s x.r n
  me : x.r.me = (i : Int)
  one : One x.r N
  vers : ∀ e ∈ x.r.All, e.2.ver ≤ N
structure Pl.ok (P : Pl) (n N : Nat) : Prop where
  len : P.X.length = n
  nn : 2 ≤ n ∧ n ≤ 8
  each : ∀ (i : Nat) x, P.X[i]? = some x → x.ok i n N
def newPc (n i p mg b v mv nv : Nat) : Pc := ⟨p, mg, ⟨(i : Int), (n : Int), []⟩, b, ⟨0, 0, 0, 1000, 0⟩, v, mv, nv, ⟨(i : Int), [], List.replicate n 0⟩, ⟨(i : Int), (n : Int), []⟩⟩
theorem newPc_ok {n i : Nat} (hi : i < n) (p mg b v mv nv : Nat) : (newPc n i p mg b v mv nv).ok i n 0 := by
  refine ⟨rfl, Led.new_ok (x := 1000) (by decide), rfl, rfl, (by rw [show (newPc n i p mg b v mv nv).g.lack nmA = (0, 0) from rfl]; decide), VRel.new ⟨by omega, by omega⟩, rfl, ⟨fun e he => by simp [newPc] at he, fun e he => by simp [newPc] at he, by simp [newPc]⟩, fun e he => by simp [newPc] at he⟩
def FreshP (n : Nat) (X : List Pc) : Prop := ∀ (i : Nat) x, X[i]? = some x → ∃ p mg b v mv nv, x = newPc n i p mg b v mv nv
theorem freshP_add {n : Nat} {X : List Pc} (h : FreshP n X) (p mg b v mv nv : Nat) : FreshP n (X ++ [newPc n X.length p mg b v mv nv]) := by
  intro i x hx
  by_cases e : i < X.length
  · rw [List.getElem?_append_left e] at hx
    exact h i x hx
  · rw [List.getElem?_append_right (by omega)] at hx
    have h0 : i - X.length = 0 := by
      have := (List.getElem?_eq_some_iff.1 hx).1
      simp at this; omega
    rw [h0] at hx
    simp at hx
    subst hx
    exact ⟨p, mg, b, v, mv, nv, by congr 1; omega⟩
theorem led_new (w : World) : Calls Tryz.prog 17 #[.int .i64 1000] w fun e w' => ∃ y : Nat, e = .returned (.tuple #[pV y, .int .i64 0]) ∧ True ∧ FreshR w w' (cellsRes y (Led.mk 0 0 0 1000 0).cl 80) :=
  (New_1 1000 cap1000 w).mono fun e w' ⟨b, hb, he, hf, hB⟩ => ⟨b, he, trivial, hf, hB, fun x hx => by simp [cellsRes] at hx; subst hx; exact hb, fun x hx => by simp [cellsRes] at hx; subst hx; exact Blk.lt hB⟩
theorem elemPc : sliceElem Tryz.prog 25 = some 34 := by kernel_rfl
theorem infoPc : (Tryz.prog.info? 34).map (fun i => (i.zero, i.size, i.bytes)) = some (some (.agg #[.pointer none, .pointer none, .pointer none]), 3, 24) := by kernel_rfl
theorem aggPc : aggB Tryz.prog 34 = some true := by kernel_rfl
theorem sizePc : sizeB Tryz.prog 34 = some 3 := by kernel_rfl
theorem aggGp : aggB Tryz.prog 30 = some false := by kernel_rfl
theorem aggLp : aggB Tryz.prog 31 = some false := by kernel_rfl
theorem aggVp : aggB Tryz.prog 32 = some false := by kernel_rfl
theorem cells_pc (a b c : Nat) : cells1 (.agg [.raw (pV a), .raw (pV b), .raw (pV c)]) = some [.raw (pV a), .raw (pV b), .raw (pV c)] := by
  simp [cells1, svCells, allOne, oneSV, Value.oneCell']
/-- The first has all. -/
def Begun (P : Pl) (n : Nat) (d u : Int) : Prop := P.X.length = n ∧ (∃ g, P.o = some ⟨g, 0, none⟩) ∧ ∀ (i : Nat) x, P.X[i]? = some x → ∃ p mg b v mv nv, x = { newPc n i p mg b v mv nv with l := if i = 0 then ⟨d, u, 0, 1000, 0⟩ else ⟨0, 0, 0, 1000, 0⟩ }
theorem begun_ok {b0 n : Nat} {d u : Int} {w : World} {a0 a1 a2 : Addr} (hs : Sents b0 w a0 a1 a2) (hB : b0 ≤ w.heap.size) (hn : 2 ≤ n ∧ n ≤ 8) (hd : 0 ≤ d) (hu : 0 ≤ u) (hdu : d + u ≤ 1000) :
    Calls Tryz.prog 7 #[.int .i64 (n : Nat), .int .i64 d, .int .i64 u] w fun e w' => ∃ P : Pl, e = .returned (.slice P.o P.X.length P.cap) ∧ Begun P n d u ∧ FreshR w w' (plRes P) := by
  have hI := Inv.nil (P := Tryz.prog) (N := 75) (S := []) (os := []) w
  obtain ⟨itt, hitt, hpt⟩ := Option.map_eq_some_iff.1 infoPc
  simp only [Prod.mk.injEq] at hpt
  refine calls_sm (cx 75 [] [] w) (vals := [.int .i64 (n : Nat), .int .i64 d, .int .i64 u]) mixed Tryz.func7 rfl rfl rfl hI rfl (st rfl ?_); conv => arg 3; whnf
  refine gw ?_
  refine n_loopX [0, 0, 0, 0] (plMem ⟨none, 0, []⟩) rfl (fun w hI => ((((hI.addR (Frm.refl [] w) (rowRes 34 3 none 0 0 []) 34 true (rowRes_nil _ _ _) (by simp [rowRes]) (by simp [rowRes])).addR (Frm.refl [] w) (allRes []) 71 true (all_nil w) (by simp [allRes]) (by simp [allRes])).addR (Frm.refl [] w) (allRes []) 80 true (all_nil w) (by simp [allRes]) (by simp [allRes])).addR (Frm.refl [] w) (allRes []) 97 true (all_nil w) (by simp [allRes]) (by simp [allRes]))) ?_
  refine n_loopJ (k := 0) (σ := Pl) (fun s => [(0, .int .i64 (n : Nat)), (1, .int .i64 d), (2, .int .i64 u), (7, .raw (.slice s.o s.X.length s.cap)), (8, .int .i64 (s.X.length : Nat))]) (fun s => plMem s) (fun s => s.X.length ≤ n ∧ FreshP n s.X) (fun s => s.X.length = n ∧ ∃ g, s.o = some ⟨g, 0, none⟩) (fun s => n - s.X.length) ⟨none, 0, []⟩ mixed rfl ⟨by simp, by intro i x hx; simp at hx⟩ (fun _ _ => rfl) (fun _ h => h) rfl (by (repeat (first | exact trivial | refine ⟨⟨rfl, rfl⟩, ?_⟩))) (fun s _ => ⟨by (repeat (first | exact trivial | refine ⟨⟨_, rfl⟩, ?_⟩)), by (repeat (first | exact trivial | refine ⟨⟨_, rfl⟩, ?_⟩))⟩) (fun s hs => ?_) (fun s hs hE => ?_)
  · obtain ⟨o, cap, X⟩ := s
    obtain ⟨hXl, hX⟩ := hs
    dsimp only at hXl hX ⊢
    (refine gs ?_)
    by_cases hlt : X.length < n
    · have hnw : newErr (X.length : Int) (n : Int) = 0 := by unfold newErr; rw [if_neg (by omega), if_neg (by omega)]
      (repeat ((first | refine n_must rfl ?_ | refine n_chk (drawF_ok (by decide +kernel)) ?_ | refine n_same rfl ?_ | ((first | refine n_must ?_ ?_ | refine n_brT ?_ ?_); (focus (first | (simp [hlt]; done) | (simp [hlt]; omega) | (simp only [hlt]; simp; done)))) | (refine n_brF ?_ ?_; (focus (first | (simp [hlt]; done) | (simp [hlt]; omega) | (simp only [hlt]; simp; done)))) | refine n_must (by (with_reducible refine and_shape ?_) <;> kernel_rfl) ?_); (refine gs ?_)))
      refine n_callN (Y := Nat × Nat) (fun y => gossRes y.1 y.2 ⟨(X.length : Int), (n : Int), []⟩) 71 (fun y => .tup [.raw (pV y.1), .int .i64 0]) (fun y => .tuple #[pV y.1, .int .i64 0]) (fun _ => True) rfl rfl rfl (fun _ => rfl) (fun w1 _ => gNew_good hnw w1) ?_
      rintro ⟨p, mg⟩ _ _
      dsimp only
      (refine gs ?_)
      refine gw ?_
      refine n_callN (Y := Nat) (fun y => cellsRes y (Led.mk 0 0 0 1000 0).cl 80) 80 (fun y => .tup [.raw (pV y), .int .i64 0]) (fun y => .tuple #[pV y, .int .i64 0]) (fun _ => True) rfl rfl rfl (fun _ => rfl) (fun w1 _ => led_new w1) ?_
      intro b _ _
      (refine gs ?_)
      refine gw ?_
      refine n_callN (Y := Nat × Nat × Nat) (fun y => viewsRes y.1 y.2.1 y.2.2 ⟨(X.length : Int), [], List.replicate n 0⟩) 97 (fun y => .tup [.raw (pV y.1), .int .i64 0]) (fun y => .tuple #[pV y.1, .int .i64 0]) (fun _ => True) rfl rfl rfl (fun _ => rfl) (fun w1 _ => vNew_good hnw w1) ?_
      rintro ⟨v, mv, nv⟩ _ _
      dsimp only
      (refine gs ?_)
      refine gw ?_
      refine n_build1 rfl rfl elemPc rfl rfl rfl rfl rfl rfl rfl (cells_pc p b v) rfl ?_
      (refine gs ?_)
      refine gw ?_
      refine n_append (nv := [pV p, pV b, pV v]) 0 rfl rfl elemPc hitt hpt.1 hpt.2.1 hpt.2.2 rfl (by omega) rfl rfl rfl rfl rfl rfl (by omega) (by simp [Value.oneCell']) (by omega) (by omega) (show X.flatMap Pc.c ++ [pV p, pV b, pV v] = (X ++ [newPc n X.length p mg b v mv nv]).flatMap Pc.c by simp [newPc]) fun g2 c2 => ?_
      (refine gs ?_)
      refine gw ?_
      have ei' : IntKind.i64.wrap ((X.length : Int) + 1) = (((X ++ [newPc n X.length p mg b v mv nv]).length : Nat) : Int) := by rw [w64 (by omega) (by omega)]; simp
      have el' : (Value.slice (some ⟨g2, 0, none⟩) (X.length + 1) c2) = Value.slice (some ⟨g2, 0, none⟩) (X ++ [newPc n X.length p mg b v mv nv]).length c2 := by simp
      refine n_againJ fun ids' w' hp hI' => ⟨⟨some ⟨g2, 0, none⟩, c2, X ++ [newPc n X.length p mg b v mv nv]⟩, ⟨by simp; omega, freshP_add hX p mg b v mv nv⟩, by simp; omega, (by (repeat (first | exact trivial | refine ⟨⟨rfl, rfl⟩, ?_⟩ | refine ⟨⟨rfl, congrArg (SV.int .i64) ei'⟩, ?_⟩ | refine ⟨⟨rfl, congrArg SV.raw el'⟩, ?_⟩))), ?_⟩
      have h1 := ((hI'.lessR 1 rfl rfl rfl (fun h => all_none h)).lessR 2 rfl rfl rfl (fun h => all_none h)).lessR 3 rfl rfl rfl (fun h => all_none h)
      have h2 := h1.join 1 4 (by decide) rfl rfl rfl rfl rfl rfl (fun h => all_in (i := X.length) h (by simp))
      have h3 := h2.join 2 5 (by decide) rfl rfl rfl rfl rfl rfl (fun h => all_in (i := X.length) h (by simp))
      have h4 := h3.join 3 6 (by decide) rfl rfl rfl rfl rfl rfl (fun h => all_in (i := X.length) h (by simp))
      have key : ∀ {f : Pc → Res} {r : Res}, f (newPc n X.length p mg b v mv nv) = r → (X.map f ++ [Res.none]).set X.length r = (X ++ [newPc n X.length p mg b v mv nv]).map f := fun {f r} h => by
        rw [List.map_append, List.set_append_right _ _ (by simp)]
        simp [h]
      rw [key (f := Pc.rg) (r := gossRes p mg ⟨(X.length : Int), (n : Int), []⟩) rfl, key (f := Pc.rl) (r := cellsRes b (Led.mk 0 0 0 1000 0).cl 80) rfl, key (f := Pc.rv) (r := viewsRes v mv nv ⟨(X.length : Int), [], List.replicate n 0⟩) rfl] at h4
      refine ⟨[⟨71, [.res Res.none], true⟩, ⟨80, [.res Res.none], true⟩, ⟨97, [.res Res.none], true⟩, ⟨34, [.raw (pV p), .raw (pV b), .raw (pV v)], true⟩], ?_⟩
      unfold plMem
      dsimp only
      rw [List.length_append]
      exact h4
    · (repeat ((first | refine n_must rfl ?_ | refine n_chk (drawF_ok (by decide +kernel)) ?_ | refine n_same rfl ?_ | ((first | refine n_must ?_ ?_ | refine n_brT ?_ ?_); (focus (first | (simp [hlt]; done) | (simp [hlt]; omega) | (simp only [hlt]; simp; done)))) | (refine n_brF ?_ ?_; (focus (first | (simp [hlt]; done) | (simp [hlt]; omega) | (simp only [hlt]; simp; done)))) | refine n_must (by (with_reducible refine and_shape ?_) <;> kernel_rfl) ?_); (refine gs ?_)))
      exact n_exitJ fun ids' w' hp hI' => ⟨⟨o, cap, X⟩, ⟨⟨hXl, hX⟩, by dsimp only; omega, rowRes_some' (hI'.res 0 rfl rfl) (by dsimp only; omega)⟩, (by (repeat (first | exact trivial | refine ⟨⟨rfl, rfl⟩, ?_⟩))), [], hI'⟩
  · obtain ⟨o, cap, X⟩ := s
    obtain ⟨hXl, hX⟩ := hs
    obtain ⟨hE1, g, hg⟩ := hE
    dsimp only at hXl hX hE1 hg ⊢
    subst hg
    have hx0 : X[0]? = some (X[0]'(by omega)) := List.getElem?_eq_getElem _
    generalize (X[0]'(by omega)) = x0 at hx0
    obtain ⟨p, mg, b, v, mv, nv, rfl⟩ := hX 0 x0 hx0
    have hin : (Led.mk 0 0 0 1000 0).in_ d u = (⟨d, u, 0, 1000, 0⟩, .ok) := by
      unfold Led.in_
      rw [if_neg (by omega), if_neg (by dsimp only; omega), if_neg (by dsimp only; omega)]
      simp
    (refine gs ?_)
    refine gw ?_
    (refine n_ldA (.raw (pV b)) rfl (by first | exact trivial | rfl) rfl (fun _ w1 _ hI1 => load_cell aggLp (row_at pc_len (hI1.res 0 rfl rfl) hx0 (j := 1) (by omega) rfl (by rw [add_add]; rfl))) ?_; (refine gs ?_))
    refine gw ?_
    refine n_callR (Y := Unit) 2 (fun _ => allRes ((X.map Pc.rl).set 0 (cellsRes b (Led.mk d u 0 1000 0).cl 80))) (fun _ => .int .i64 0) (fun _ => .int .i64 0) (fun _ => True) rfl rfl (fun _ => rfl) rfl rfl rfl (fun ids1 w1 hp1 hI1 hR1 => ?_) ?_
    · have hB1 : Blk w1 b (Led.mk 0 0 0 1000 0).cells 80 := all_at (r := (newPc n 0 p mg b v mv nv).rl) hR1 (by rw [List.getElem?_map, hx0]; rfl)
      have hbn : b0 ≤ b := by
        have h := hI1.res_new 2 rfl rfl rfl (by simp) b (List.mem_flatMap.2 ⟨(newPc n 0 p mg b v mv nv).rl, List.mem_map.2 ⟨_, List.mem_of_getElem? hx0, rfl⟩, by simp [cellsRes, newPc]⟩)
        exact Nat.le_trans hB h
      have h := In_ok (hs.frm hI1.frm (by simp) hB) hbn (Nat.le_trans hB hI1.frm.size) ⟨0, 0, 0, 1000, 0⟩ (Led.new_ok (x := 1000) (by decide)) hB1 d u
      rw [hin] at h
      exact h.mono fun e w' ⟨he, hf, hb⟩ => ⟨(), he, trivial, post_all hR1 (hI1.resLt 2 rfl rfl) (by rw [List.getElem?_map, hx0]; rfl) (post_cells (l := (Led.mk 0 0 0 1000 0).cl) (l' := (Led.mk d u 0 1000 0).cl) hB1 hf hb)⟩
    intro _ _
    (refine gs ?_)
    refine gw ?_
    have hset : ∀ (i : Nat) x, (X.set 0 { newPc n 0 p mg b v mv nv with l := ⟨d, u, 0, 1000, 0⟩ })[i]? = some x → ∃ p mg b v mv nv, x = { newPc n i p mg b v mv nv with l := if i = 0 then ⟨d, u, 0, 1000, 0⟩ else ⟨0, 0, 0, 1000, 0⟩ } := by
      intro i x hx
      rw [List.getElem?_set] at hx
      split at hx
      · rename_i e
        subst e
        simp only [show 0 < X.length by omega, if_true] at hx
        cases hx
        exact ⟨p, mg, b, v, mv, nv, by simp⟩
      · rename_i e
        obtain ⟨a1, a2, a3, a4, a5, a6, rfl⟩ := hX i x hx
        exact ⟨a1, a2, a3, a4, a5, a6, by rw [if_neg fun h => e h.symm]; rfl⟩
    refine n_ret rfl fun ids' w' hp hI' => ⟨_, rfl, ⟨some ⟨g, 0, none⟩, cap, X.set 0 { newPc n 0 p mg b v mv nv with l := ⟨d, u, 0, 1000, 0⟩ }⟩, by simp, ⟨by simp [hE1], ⟨g, rfl⟩, hset⟩, ?_⟩
    have e0 : X.flatMap Pc.c = (X.set 0 { newPc n 0 p mg b v mv nv with l := ⟨d, u, 0, 1000, 0⟩ }).flatMap Pc.c := (flat_same (P := ⟨none, 0, X⟩) (x' := { newPc n 0 p mg b v mv nv with l := ⟨d, u, 0, 1000, 0⟩ }) hx0 rfl).symm
    have e1 : X.map Pc.rg = (X.set 0 { newPc n 0 p mg b v mv nv with l := ⟨d, u, 0, 1000, 0⟩ }).map Pc.rg := (map_same (x' := { newPc n 0 p mg b v mv nv with l := ⟨d, u, 0, 1000, 0⟩ }) hx0 rfl).symm
    have e2 : (X.map Pc.rl).set 0 (cellsRes b (Led.mk d u 0 1000 0).cl 80) = (X.set 0 { newPc n 0 p mg b v mv nv with l := ⟨d, u, 0, 1000, 0⟩ }).map Pc.rl := by rw [List.map_set]; rfl
    have e3 : X.map Pc.rv = (X.set 0 { newPc n 0 p mg b v mv nv with l := ⟨d, u, 0, 1000, 0⟩ }).map Pc.rv := (map_same (x' := { newPc n 0 p mg b v mv nv with l := ⟨d, u, 0, 1000, 0⟩ }) hx0 rfl).symm
    have eL : X.length = (X.set 0 { newPc n 0 p mg b v mv nv with l := ⟨d, u, 0, 1000, 0⟩ }).length := by simp
    rw [e0, e1, e2, e3, eL] at hI'
    exact fresh_shut (ids := [0, 0, 0, 0]) (mem := plMem ⟨some ⟨g, 0, none⟩, cap, X.set 0 { newPc n 0 p mg b v mv nv with l := ⟨d, u, 0, 1000, 0⟩ }⟩) hI' rfl [0, 1, 2, 3] (.res rfl (.res rfl (.res rfl (.res rfl .nil)))) (by decide)
end
section
set_option maxRecDepth 100000
set_option linter.unusedSimpArgs false
set_option linter.unusedVariables false
set_option maxHeartbeats 8000000
open Go.RowKit

/-- The digest L of wi has come to the first i. -/
def spreadL (P : Pl) (wi : Nat) (L : List Vw) : Nat → Pl
  | 0 => P
  | i + 1 => if i = wi then spreadL P wi L i else match (spreadL P wi L i).X[i]? with
    | some x => (spreadL P wi L i).set i (x.taken (wi : Int) L)
    | none => spreadL P wi L i
theorem spreadL_at {P : Pl} {wi : Nat} {L : List Vw} : ∀ (i j : Nat), (spreadL P wi L i).X[j]? = if j < i ∧ j ≠ wi then (P.X[j]?).map (fun x => x.taken (wi : Int) L) else P.X[j]?
  | 0, j => by rw [if_neg (by omega)]; rfl
  | i + 1, j => by
    have ih := fun j => spreadL_at (P := P) (wi := wi) (L := L) i j
    unfold spreadL
    by_cases h : i = wi
    · rw [if_pos h, ih]
      by_cases hj : j < i ∧ j ≠ wi
      · rw [if_pos hj, if_pos (by omega)]
      · rw [if_neg hj, if_neg (by omega)]
    · rw [if_neg h]
      have h0 := ih i
      rw [if_neg (by omega)] at h0
      cases hx : P.X[i]? with
      | none =>
        rw [hx] at h0
        simp only [h0]
        rw [ih]
        by_cases e : j = i
        · subst e
          rw [if_neg (by omega), hx]; simp
        · by_cases hj : j < i ∧ j ≠ wi
          · rw [if_pos hj, if_pos (by omega)]
          · rw [if_neg hj, if_neg (by omega)]
      | some x =>
        rw [hx] at h0
        simp only [h0]
        rw [List.getElem?_set]
        by_cases e : i = j
        · subst e
          rw [if_pos rfl, if_pos (List.getElem?_eq_some_iff.1 h0).1, if_pos ⟨by omega, h⟩, hx]; rfl
        · rw [if_neg e, ih]
          by_cases hj : j < i ∧ j ≠ wi
          · rw [if_pos hj, if_pos (by omega)]
          · rw [if_neg hj, if_neg (by omega)]
theorem spreadL_len {P : Pl} {wi : Nat} {L : List Vw} : ∀ i, (spreadL P wi L i).X.length = P.X.length ∧ (spreadL P wi L i).o = P.o ∧ (spreadL P wi L i).cap = P.cap
  | 0 => ⟨rfl, rfl, rfl⟩
  | i + 1 => by
    have ih := spreadL_len (P := P) (wi := wi) (L := L) i
    unfold spreadL
    split
    · exact ih
    · split
      · exact ⟨by simp [ih.1], ih.2⟩
      · exact ih
/-- What wi tells of itself comes to all others. -/
def spreadP (P : Pl) (wi : Nat) : Pl := match P.X[wi]? with
  | some x => spreadL (P.set wi (x.told x.l.d x.l.u)) wi [lastF (x.told x.l.d x.l.u).r.All (wi : Int) nmA] P.X.length
  | none => P
theorem told_ok' {x : Pc} {i n N : Nat} (h : x.ok i n N) (hN : N ≤ 10000) : (x.r.tell (vwK x.l.d x.l.u)).2 = 0 ∧ (x.told x.l.d x.l.u).ok i n (N + 1) ∧ rDigF (x.told x.l.d x.l.u).r = [lastF (x.told x.l.d x.l.u).r.All (i : Int) nmA] ∧ rightB (lastF (x.told x.l.d x.l.u).r.All (i : Int) nmA) = true ∧ (lastF (x.told x.l.d x.l.u).r.All (i : Int) nmA).nm = nmA ∧
    (lastF (x.told x.l.d x.l.u).r.All (i : Int) nmA).ver ≤ N + 1 ∧ (lastF (x.told x.l.d x.l.u).r.All (i : Int) nmA).d = x.l.d ∧ (lastF (x.told x.l.d x.l.u).r.All (i : Int) nmA).u = x.l.u := by
  have lo := h.lo
  have h1 := lo.d0
  have h2 := lo.u0
  have h3 := lo.sum
  have hlim := h.lim
  have hlh := h.lh
  obtain ⟨t1, t2, t3, t4, t5, t6, t7, t8, t9, t10⟩ := tell_one h.one (by omega) h.vers h1 h2 (by omega)
  have hv := (tell_like h.vr (by have := h.one.len; omega) nmA 1000 0 x.l.d x.l.u 0).2
  have hme := h.me
  have hr : (x.told x.l.d x.l.u).r = (x.r.tell (vwK x.l.d x.l.u)).1 := rfl
  rw [hme] at t6 t7 t8 t9
  have hin : ((i : Int), lastF (x.told x.l.d x.l.u).r.All (i : Int) nmA) ∈ (x.told x.l.d x.l.u).r.All := by
    rw [hr]
    rcases lastF_spec (x.r.tell (vwK x.l.d x.l.u)).1.All (i : Int) nmA with ⟨h4, _⟩ | ⟨h4, _⟩
    · rw [h4] at t8; exact absurd t8 (by decide)
    · exact h4
  refine ⟨t1, ⟨h.gm, lo, hlim, hlh, h.lk, hv, t4.trans hme, t2, fun e he => by have := t3 e he; omega⟩, ?_, t2.rt _ hin, t9, by have := t3 _ hin; exact_mod_cast this, t6, t7⟩
  have := dig_one hv t2 (by rw [t4, hme]; exact t8)
  rw [t4, hme] at this
  exact this
theorem taken_ok' {x : Pc} {i n N k : Nat} (h : x.ok i n N) (hk : k < n) (hne : k ≠ i) (hi : i < n) {v : Vw} (hv : rightB v = true) (hn : v.nm = nmA) (hver : v.ver ≤ N + 1) : (x.r.take (k : Int) [v]).2.2 = 0 ∧ (x.taken (k : Int) [v]).ok i n (N + 1) := by
  have hrn := h.vr.rn
  have hme := h.me
  obtain ⟨t1, t2, t3, t4⟩ := take_one h.one (k := (k : Int)) ⟨by omega, by omega, by omega⟩ hv hn
  refine ⟨t1, ⟨h.gm, h.lo, h.lim, h.lh, h.lk, (take_like h.vr (k : Int) [v]).2, t2.trans hme, h.one.take hv hn t4, fun e he => ?_⟩⟩
  have he' : e ∈ (x.r.take (k : Int) [v]).1.All := he
  rw [t4] at he'
  split at he'
  · rcases List.mem_append.1 he' with he' | he'
    · have := h.vers e he'; omega
    · rw [List.mem_singleton] at he'; subst he'; exact_mod_cast hver
  · have := h.vers e he'; omega
theorem Pc.ok.mono {x : Pc} {i n N M : Nat} (h : x.ok i n N) (hm : N ≤ M) : x.ok i n M := ⟨h.gm, h.lo, h.lim, h.lh, h.lk, h.vr, h.me, ⟨h.one.nm, h.one.rt, Nat.le_trans h.one.len hm⟩, fun e he => by have := h.vers e he; omega⟩
theorem spread_ok' {P : Pl} {n N wi : Nat} (h : P.ok n N) (hN : N ≤ 10000) (hw : wi < n) : (spreadP P wi).ok n (N + 2) ∧ (spreadP P wi).o = P.o := by
  have hx : P.X[wi]? = some (P.X[wi]'(by rw [h.len]; exact hw)) := List.getElem?_eq_getElem _
  generalize (P.X[wi]'(by rw [h.len]; exact hw)) = x at hx
  obtain ⟨t1, t2, t3, t4, t5, t6, _⟩ := told_ok' (h.each wi x hx) hN
  unfold spreadP
  rw [hx]
  dsimp only
  obtain ⟨l1, l2, l3⟩ := spreadL_len (P := P.set wi (x.told x.l.d x.l.u)) (wi := wi) (L := [lastF (x.told x.l.d x.l.u).r.All (wi : Int) nmA]) P.X.length
  refine ⟨⟨by rw [l1]; simp [h.len], h.nn, fun i y hy => ?_⟩, l2⟩
  rw [spreadL_at] at hy
  have hb : ∀ z, (P.set wi (x.told x.l.d x.l.u)).X[i]? = some z → z.ok i n (N + 1) := by
    intro z hz
    rw [List.getElem?_set] at hz
    split at hz
    · rename_i e
      subst e
      simp only [(List.getElem?_eq_some_iff.1 hx).1, if_true] at hz
      cases hz
      exact t2
    · exact (h.each i z hz).mono (by omega)
  split at hy
  · rename_i hc
    cases hz : (P.set wi (x.told x.l.d x.l.u)).X[i]? with
    | none => rw [hz] at hy; cases hy
    | some z =>
      rw [hz] at hy
      cases hy
      have hi : i < n := by rw [← h.len]; exact hc.1
      exact (taken_ok' (hb z hz) hw (fun e => hc.2 e.symm) hi t4 t5 (by omega)).2
  · exact (hb y hy).mono (by omega)
theorem spread_ok {b0 n N wi : Nat} {P : Pl} {w : World} (hP : P.ok n N) (hN : N ≤ 10000) (hw : wi < n) (hR : (plRes P).R w) :
    Calls Tryz.prog 10 #[.slice P.o P.X.length P.cap, .int .i64 (wi : Nat)] w fun e w' => e = .returned (.bool true) ∧ Post (plRes P) (plRes (spreadP P wi)) w w' := by
  have hlen := hP.len
  have hn := hP.nn
  have hx : P.X[wi]? = some (P.X[wi]'(by rw [hlen]; exact hw)) := List.getElem?_eq_getElem _
  generalize (P.X[wi]'(by rw [hlen]; exact hw)) = x at hx
  obtain ⟨t1, t2, t3, t4, t5, t6, _⟩ := told_ok' (hP.each wi x hx) hN
  have hxo := hP.each wi x hx
  obtain ⟨g, hg⟩ : ∃ g, P.o = some ⟨g, 0, none⟩ := rowRes_some' (memRes_res hR 0 rfl rfl) (by rw [hlen]; omega)
  have hlx := hxo.one.len
  have hI : Inv (cx 48 [(2, .of [(0, []), (1, []), (2, []), (3, []), (4, [1]), (5, []), (6, [])])] (plRes P).fp w) w [0] [⟨34, [.res (plRes P)], true⟩] := (Inv.nil w).consR (by simp) hR (memRes_lt hR) (fun _ x hx => hx)
  have hsp : spreadP P wi = spreadL (P.set wi (x.told x.l.d x.l.u)) wi [lastF (x.told x.l.d x.l.u).r.All (wi : Int) nmA] P.X.length := by unfold spreadP; rw [hx]
  rw [hsp]
  refine calls_sm (cx 48 [(2, .of [(0, []), (1, []), (2, []), (3, []), (4, [1]), (5, []), (6, [])])] (plRes P).fp w) (vals := [.raw (.slice P.o P.X.length P.cap), .int .i64 (wi : Nat)]) mixed Tryz.func10 rfl rfl rfl hI rfl (st rfl ?_); conv => arg 3; whnf
  rw [hg]
  refine gw ?_
  (refine n_ldA (.agg [.raw (pV x.p), .raw (pV x.b), .raw (pV x.v)]) rfl (by first | exact trivial | rfl) rfl (fun _ w1 _ hI1 => load_row (l := x.c) aggPc sizePc (fun j u hu => row_at pc_len (hg ▸ memRes_res (hI1.res 0 rfl rfl) 0 rfl rfl) hx (by have := (List.getElem?_eq_some_iff.1 hu).1; simpa using this) hu (by rw [Int.toNat_natCast, add_add]))) ?_; (refine gs ?_))
  refine gw ?_
  refine n_sameP (rtS (x.l.d, x.l.u)) rfl rfl rfl (fun _ w1 hp1 hI1 => rights_pl (hI1.res 0 rfl rfl) hx) ?_; (refine gs ?_)
  refine gw ?_
  refine n_callR (Y := Unit) 0 (fun _ => plRes (P.set wi (x.told x.l.d x.l.u))) (fun _ => .int .i64 0) (fun _ => .int .i64 0) (fun _ => True) rfl rfl (fun _ => rfl) rfl rfl rfl (fun _ w1 _ hI1 hR1 => (tell_pl hR1 hx hxo.vr (by omega) (by omega) x.l.d x.l.u).mono fun e w' ⟨he, hP⟩ => ⟨(), by rw [he, t1], trivial, hP⟩) ?_
  intro _ _
  have hx1 : (P.set wi (x.told x.l.d x.l.u)).X[wi]? = some (x.told x.l.d x.l.u) := List.getElem?_set_self (by rw [hlen]; exact hw)
  have hP1 : ∀ (i : Nat) z, (P.set wi (x.told x.l.d x.l.u)).X[i]? = some z → z.ok i n (N + 1) := by
    intro i z hz
    rw [List.getElem?_set] at hz
    split at hz
    · rename_i e
      subst e
      simp only [(List.getElem?_eq_some_iff.1 hx).1, if_true] at hz
      cases hz
      exact t2
    · exact (hP.each i z hz).mono (by omega)
  have hl1 : (P.set wi (x.told x.l.d x.l.u)).X.length = n := by simp [hlen]
  have ho1 : (P.set wi (x.told x.l.d x.l.u)).o = some ⟨g, 0, none⟩ := hg
  have hc1 : (P.set wi (x.told x.l.d x.l.u)).cap = P.cap := rfl
  have hv1 : (x.told x.l.d x.l.u).v = x.v := rfl
  generalize hP1e : P.set wi (x.told x.l.d x.l.u) = P1 at hx1 hP1 hl1 ho1 hc1
  generalize hV : lastF (x.told x.l.d x.l.u).r.All (wi : Int) nmA = V at t3 t4 t5 t6
  have hlx2 := t2.one.len
  (refine gs ?_)
  refine gw ?_
  refine n_call1 rfl fun bp => ?_
  refine n_callN (Y := Option Addr × Nat) (fun y => vRow y.1 1 y.2 (vws [V])) 104 (fun y => .raw (.slice y.1 1 y.2)) (fun y => .slice y.1 1 y.2) (fun _ => True) rfl rfl rfl (fun _ => rfl) (fun w1 hI1 => by
    have h := dig_pl (hI1.res 0 rfl rfl) hx1 t2.vr (by omega)
    rw [t3] at h
    exact h) ?_
  rintro ⟨l0, c0⟩ _ _
  dsimp only
  have hnl : P.X.length = n := hlen
  (refine gs ?_)
  refine gw ?_
  refine n_loop (σ := Nat) (fun i => [(0, .raw (.slice (some ⟨g, 0, none⟩) P.X.length P.cap)), (1, .int .i64 (wi : Nat)), (7, .raw (.slice l0 1 c0)), (8, .int .i64 (i : Nat))]) (fun i => [⟨34, [.res (plRes (spreadL P1 wi [V] i))], true⟩, ⟨34, [.raw (pV x.p), .raw (pV x.b), .raw (pV x.v)], true⟩, ⟨104, [.res (vRow l0 1 c0 (vws [V]))], true⟩]) (fun i => i ≤ n) (fun i => n - i) 0 mixed (by omega) (fun _ _ => rfl) rfl (by (repeat (first | exact trivial | refine ⟨⟨rfl, rfl⟩, ?_⟩))) (fun s _ => ⟨by (repeat (first | exact trivial | refine ⟨⟨_, rfl⟩, ?_⟩)), by (repeat (first | exact trivial | refine ⟨⟨_, rfl⟩, ?_⟩))⟩) fun i hi => ?_
  (refine gs ?_)
  by_cases hin : i < n
  · have ei : IntKind.i64.wrap ((i : Int) + 1) = ((i + 1 : Nat) : Int) := by rw [w64 (by omega) (by omega)]; simp
    have hin' : (i : Int) < (P.X.length : Nat) := by omega
    by_cases hiw : i = wi
    · have e1 : spreadL P1 wi [V] (i + 1) = spreadL P1 wi [V] i := by rw [spreadL, if_pos hiw]
      subst hiw
      (repeat ((first | refine n_must rfl ?_ | refine n_chk (drawF_ok (by decide +kernel)) ?_ | refine n_same rfl ?_ | ((first | refine n_must ?_ ?_ | refine n_brT ?_ ?_); (focus (first | (simp [hin']; done) | (simp [hin']; omega) | (simp only [hin']; simp; done)))) | (refine n_brF ?_ ?_; (focus (first | (simp [hin']; done) | (simp [hin']; omega) | (simp only [hin']; simp; done)))) | refine n_must (by (with_reducible refine and_shape ?_) <;> kernel_rfl) ?_); (refine gs ?_)))
      exact n_again ⟨i + 1, by omega, by omega, (by (repeat (first | exact trivial | refine ⟨⟨rfl, rfl⟩, ?_⟩ | refine ⟨⟨rfl, congrArg (SV.int .i64) ei⟩, ?_⟩))), _, by rw [e1]; rfl⟩
    · have hiw' : ¬ (i : Int) = (wi : Int) := by omega
      obtain ⟨q1, q2, q3⟩ := spreadL_len (P := P1) (wi := wi) (L := [V]) i
      have hat := spreadL_at (P := P1) (wi := wi) (L := [V]) i i
      rw [if_neg (by omega)] at hat
      have hy : P1.X[i]? = some (P1.X[i]'(by omega)) := List.getElem?_eq_getElem _
      generalize (P1.X[i]'(by omega)) = y at hy
      rw [hy] at hat
      have e1 : spreadL P1 wi [V] (i + 1) = (spreadL P1 wi [V] i).set i (y.taken (wi : Int) [V]) := by
        rw [spreadL, if_neg hiw, hat]
      have hoi : (spreadL P1 wi [V] i).o = some ⟨g, 0, none⟩ := q2.trans ho1
      have hyo := hP1 i y hy
      have tk := taken_ok' hyo hw (fun e => hiw e.symm) hin t4 t5 (by omega)
      have hyl := hyo.one.len
      generalize spreadL P1 wi [V] i = Pi at hat e1 hoi q1
      (repeat ((first | refine n_must rfl ?_ | refine n_chk (drawF_ok (by decide +kernel)) ?_ | refine n_same rfl ?_ | ((first | refine n_must ?_ ?_ | refine n_brT ?_ ?_); (focus (first | (simp [hin', hiw']; done) | (simp [hin', hiw']; omega) | (simp only [hin', hiw']; simp; done)))) | (refine n_brF ?_ ?_; (focus (first | (simp [hin', hiw']; done) | (simp [hin', hiw']; omega) | (simp only [hin', hiw']; simp; done)))) | refine n_must (by (with_reducible refine and_shape ?_) <;> kernel_rfl) ?_); (refine gs ?_)))
      (refine n_ldA (.raw (pV y.v)) rfl (by first | exact trivial | rfl) rfl (fun _ w1 _ hI1 => load_cell aggVp (row_at pc_len (hoi ▸ memRes_res (hI1.res 0 rfl rfl) 0 rfl rfl) hat (j := 2) (by omega) rfl (by rw [Int.toNat_natCast, add_add]; rfl))) ?_; (refine gs ?_))
      refine gw ?_
      refine n_callR (Y := Unit) 0 (fun _ => plRes (Pi.set i (y.taken (wi : Int) [V]))) (fun _ => .tup [.int .i64 (y.r.take (wi : Int) [V]).2.1, .int .i64 0]) (fun _ => .tuple #[.int .i64 (y.r.take (wi : Int) [V]).2.1, .int .i64 0]) (fun _ => True) rfl rfl (fun _ => rfl) rfl rfl rfl (fun _ w1 _ hI1 hR1 =>
        (take_pl hR1 hat hyo.vr (by omega) (by omega) (wi : Int) (by constructor <;> omega) (L := [V]) rfl c0 (rd_of_row (hI1.res 2 rfl rfl)) (fun k hk => rd_lt (rd_of_row (hI1.res 2 rfl rfl)) k hk) (fun z hz hz2 => hI1.res_res 0 2 (by decide) rfl rfl rfl rfl z (pl_inv hR1 hat z hz) (rd_inR hz2))).mono fun e w' ⟨he, hP⟩ => ⟨(), by rw [he, tk.1], trivial, hP⟩) ?_
      intro _ _
      (refine gs ?_)
      refine gw ?_
      exact n_again ⟨i + 1, by omega, by omega, (by (repeat (first | exact trivial | refine ⟨⟨rfl, rfl⟩, ?_⟩ | refine ⟨⟨rfl, congrArg (SV.int .i64) ei⟩, ?_⟩))), _, by rw [e1]; rfl⟩
  · obtain rfl : i = n := by omega
    have hin' : ¬ (i : Int) < (P.X.length : Nat) := by omega
    (repeat ((first | refine n_must rfl ?_ | refine n_chk (drawF_ok (by decide +kernel)) ?_ | refine n_same rfl ?_ | ((first | refine n_must ?_ ?_ | refine n_brT ?_ ?_); (focus (first | (simp [hin']; done) | (simp [hin']; omega) | (simp only [hin']; simp; done)))) | (refine n_brF ?_ ?_; (focus (first | (simp [hin']; done) | (simp [hin']; omega) | (simp only [hin']; simp; done)))) | refine n_must (by (with_reducible refine and_shape ?_) <;> kernel_rfl) ?_); (refine gs ?_)))
    refine n_exit rfl ?_
    (refine gs ?_)
    refine gw ?_
    rw [hnl]
    exact n_ret0 rfl rfl fun ids' w' hp hI' => ⟨rfl, post_res hI' rfl 0 rfl rfl rfl⟩
end
end Go.Proofs.YtglafgpjgkphkaaGreatDoor
