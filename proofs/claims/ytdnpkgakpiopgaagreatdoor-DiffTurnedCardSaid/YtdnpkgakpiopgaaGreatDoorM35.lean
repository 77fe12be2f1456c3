import Derived.Test.YtdnpkgakpiopgaaGreatDoorGo
import Derived.Test.YtdnpkgakpiopgaaGreatDoorM34
import Derived.Test.YtdnpkgakpiopgaaGreatDoorM22
import Derived.Test.YtdnpkgakpiopgaaGreatDoorM7
import Derived.Test.YtdnpkgakpiopgaaGreatDoorM11
import Derived.Test.YtdnpkgakpiopgaaGreatDoorM31
import Derived.Test.YtdnpkgakpiopgaaGreatDoorM19
import Derived.Test.YtdnpkgakpiopgaaGreatDoorM27
import Derived.Test.YtdnpkgakpiopgaaGreatDoorM2
import Derived.Test.YtdnpkgakpiopgaaGreatDoorM20
namespace Go.Proofs.YtdnpkgakpiopgaaGreatDoor
set_option maxRecDepth 20000
open Go.Awp Tr
abbrev Vis := List (Nms × Int)
def visD (m : MF) : Nat → Nms → Int → Vis
 | 0, _, _ => []
 | n + 1, N, i => match m.at i with
  | none => []
  | some x => x.e.flatMap fun y => (N ++ [y.1], beV y.2) :: (if m.kind (beV y.2) = 2 then visD m n (N ++ [y.1]) (beV y.2) else [])
def Pf (m : MF) : List Nms → Vis → Prop
 | _, [] => True
 | S, v :: r => (∃ N y d x, v.1 = N ++ [y] ∧ N ∈ S ∧ Reach m N d ∧ m.at d = some x ∧ x.k = 2 ∧ lget y x.e = some (beB 4 v.2) ∧ U32 v.2) ∧ Pf m (v.1 :: S) r
theorem Pf.mono {m : MF} : ∀ (V : Vis) {S T : List Nms}, (∀ N ∈ S, N ∈ T) → Pf m S V → Pf m T V
 | [], _, _, _, _ => trivial
 | v :: r, S, T, h, ⟨⟨N, y, d, x, h1, h2, h3⟩, h4⟩ => ⟨⟨N, y, d, x, h1, h N h2, h3⟩, Pf.mono r (fun M hM => by
   rcases List.mem_cons.1 hM with e | hM
   ·rw [e]; simp
   ·exact List.mem_cons_of_mem _ (h M hM)) h4⟩
theorem Pf.app {m : MF} : ∀ (V W : Vis) {S : List Nms}, Pf m S V → Pf m S W → Pf m S (V ++ W)
 | [], _, _, _, h => h
 | _ :: r, W, _, ⟨h1, h2⟩, h => ⟨h1, Pf.app r W h2 (h.mono W fun _ hM => List.mem_cons_of_mem _ hM)⟩
theorem zS6 {l : List KV} {m : MF} {par : Int → Int} (R : Rel l m par) {i : Int} {x : MN} (hx : m.at i = some x) {y : KV} (hy : y ∈ x.e) {N : Nms} (hr : Reach m N i) :
  x.k = 2 ∧ lget y.1 x.e = some (beB 4 (beV y.2)) ∧ U32 (beV y.2) ∧ nameB y.1 = true ∧ Reach m (N ++ [y.1]) (beV y.2) ∧ ∃ z, m.at (beV y.2) = some z := by
 have hre : Rises x.e := by rw [R.ent _ _ hx]; exact zU R.ri
 have hg := (z5 hre).2 (show (y.1, y.2) ∈ x.e from hy)
 obtain ⟨hn, c, z, h1, h2, _⟩ := R.nam _ _ hx y.1 y.2 hg
 have hcu := (R.u c z h2).1
 have hc : beV y.2 = c := by rw [h1, yM c hcu]
 have hk : x.k = 2 := by
  rcases R.kin _ _ hx with q | q
  ·exact q.1
  ·rw [q.2.1] at hy; cases hy
 rw [hc]
 have hg2 : lget y.1 x.e = some (beB 4 c) := by rw [hg, h1]
 exact ⟨hk, hg2, hcu, hn, .snoc hr hx hk hg2 hcu, z, h2⟩
theorem zU3 {l : List KV} {m : MF} {par : Int → Int} (R : Rel l m par) : ∀ (n : Nat) (N : Nms) (i : Int), Reach m N i →
  (∀ v ∈ visD m n N i, Reach m v.1 v.2 ∧ (∃ M : Nms, M ≠ [] ∧ v.1 = N ++ M) ∧ ∃ z, m.at v.2 = some z) ∧ ((visD m n N i).map (·.1)).Nodup ∧ ∀ S : List Nms, N ∈ S → Pf m S (visD m n N i) := by
 intro n
 induction n with
 | zero => intro N i _; exact ⟨fun v hv => (by cases hv), List.nodup_nil, fun _ _ => trivial⟩
 | succ n ih =>
  intro N i hr
  unfold visD
  cases hx : m.at i with
  | none => exact ⟨fun v hv => (by cases hv), List.nodup_nil, fun _ _ => trivial⟩
  | some x =>
   dsimp only
   have hre : Rises x.e := by rw [R.ent _ _ hx]; exact zU R.ri
   have key : ∀ e : List KV, Rises e → (∀ y ∈ e, y ∈ x.e) →
     (∀ v ∈ e.flatMap (fun y => (N ++ [y.1], beV y.2) :: (if m.kind (beV y.2) = 2 then visD m n (N ++ [y.1]) (beV y.2) else [])), Reach m v.1 v.2 ∧ (∃ y ∈ e, ∃ M : Nms, v.1 = N ++ y.1 :: M) ∧ ∃ z, m.at v.2 = some z) ∧
     ((e.flatMap (fun y => (N ++ [y.1], beV y.2) :: (if m.kind (beV y.2) = 2 then visD m n (N ++ [y.1]) (beV y.2) else []))).map (·.1)).Nodup ∧
     ∀ S : List Nms, N ∈ S → Pf m S (e.flatMap (fun y => (N ++ [y.1], beV y.2) :: (if m.kind (beV y.2) = 2 then visD m n (N ++ [y.1]) (beV y.2) else []))) := by
    intro e
    induction e with
    | nil => intro _ _; exact ⟨fun v hv => (by cases hv), List.nodup_nil, fun _ _ => trivial⟩
    | cons y r ih2 =>
     intro hri hsub
     have hri2 := List.pairwise_cons.1 hri
     obtain ⟨a1, a2, a3⟩ := ih2 hri2.2 fun z hz => hsub z (by simp [hz])
     obtain ⟨hk, hg, hcu, hn, hry, z, hz⟩ := zS6 R hx (hsub y (by simp)) hr
     have sub : (∀ v ∈ (if m.kind (beV y.2) = 2 then visD m n (N ++ [y.1]) (beV y.2) else []), Reach m v.1 v.2 ∧ (∃ M : Nms, M ≠ [] ∧ v.1 = N ++ [y.1] ++ M) ∧ ∃ z, m.at v.2 = some z) ∧
       ((if m.kind (beV y.2) = 2 then visD m n (N ++ [y.1]) (beV y.2) else []).map (·.1)).Nodup ∧ ∀ S : List Nms, N ++ [y.1] ∈ S → Pf m S (if m.kind (beV y.2) = 2 then visD m n (N ++ [y.1]) (beV y.2) else []) := by
      split
      ·exact ih (N ++ [y.1]) (beV y.2) hry
      ·exact ⟨fun v hv => (by cases hv), List.nodup_nil, fun _ _ => trivial⟩
     rw [List.flatMap_cons]
     generalize (if m.kind (beV y.2) = 2 then visD m n (N ++ [y.1]) (beV y.2) else []) = W at sub ⊢
     obtain ⟨b1, b2, b3⟩ := sub
     generalize hY : List.flatMap (fun y => (N ++ [y.1], beV y.2) :: (if m.kind (beV y.2) = 2 then visD m n (N ++ [y.1]) (beV y.2) else [])) r = Y at a1 a2 a3 ⊢
     have c1 : ∀ v ∈ (N ++ [y.1], beV y.2) :: W, Reach m v.1 v.2 ∧ (∃ M : Nms, v.1 = N ++ y.1 :: M) ∧ ∃ z, m.at v.2 = some z := by
      intro v hv
      rcases List.mem_cons.1 hv with e | hv
      ·rw [e]; exact ⟨hry, ⟨[], rfl⟩, z, hz⟩
      ·obtain ⟨h1, ⟨M, _, h2⟩, h3⟩ := b1 v hv
       exact ⟨h1, ⟨M, by rw [h2, List.append_assoc]; rfl⟩, h3⟩
     refine ⟨fun v hv => ?_, ?_, fun S hS => ?_⟩
     ·rcases List.mem_append.1 hv with hv | hv
      ·obtain ⟨h1, ⟨M, h2⟩, h3⟩ := c1 v hv
       exact ⟨h1, ⟨y, by simp, M, h2⟩, h3⟩
      ·obtain ⟨h1, ⟨z, hz, M, h2⟩, h3⟩ := a1 v hv
       exact ⟨h1, ⟨z, by simp [hz], M, h2⟩, h3⟩
     ·rw [List.map_append]
      refine List.nodup_append.2 ⟨?_, a2, fun a ha b hb => ?_⟩
      ·rw [List.map_cons]
       refine List.nodup_cons.2 ⟨fun hm => ?_, b2⟩
       obtain ⟨v, hv, e⟩ := List.mem_map.1 hm
       obtain ⟨_, ⟨M, hM, h2⟩, _⟩ := b1 v hv
       rw [h2] at e
       have := congrArg List.length (show N ++ [y.1] ++ M = N ++ [y.1] from e)
       rw [List.length_append] at this
       exact hM (List.eq_nil_of_length_eq_zero (by omega))
      ·obtain ⟨v, hv, rfl⟩ := List.mem_map.1 ha
       obtain ⟨w, hw, rfl⟩ := List.mem_map.1 hb
       obtain ⟨_, ⟨M, h2⟩, _⟩ := c1 v hv
       obtain ⟨_, ⟨z, hz, M', h3⟩, _⟩ := a1 w hw
       rw [h2, h3]
       intro q
       have q2 := List.append_cancel_left q
       exact jW (hri2.1 z hz) (List.cons.inj q2).1
     ·refine Pf.app _ _ ⟨⟨N, y.1, i, x, rfl, hS, hr, hx, hk, hg, hcu⟩, b3 _ List.mem_cons_self⟩ (a3 S hS)
   obtain ⟨k1, k2, k3⟩ := key x.e hre fun _ h => h
   refine ⟨fun v hv => ?_, k2, k3⟩
   obtain ⟨h1, ⟨y, _, M, h2⟩, h3⟩ := k1 v hv
   exact ⟨h1, ⟨y.1 :: M, by simp, h2⟩, h3⟩
def adS (t : Tr) : Nat → Int → List Int → VS → VS
 | 0, _, _, s => s
 | n + 1, j, q, s => if j = 1 then s else match ldT t j with
  | none => s.rd (keyH 73 j)
  | some x => if x.1 ≠ 2 then s.rd (keyH 73 j) else if j ∈ q then s.rd (keyH 73 j) else adS t n x.2.2.2 (j :: q) (s.rd (keyH 73 j))
structure AdI (t : Tr) (m : Nat) (j0 : Int) (s0 : VS) where
 n : Nat
 j : Int
 q : List Int
 s : VS
 M : Mp
 hj : U32 j
 hn : n + q.length = t.size + 2
 nd : q.Nodup
 sub : ∀ i ∈ q, i ∈ allI t.row
 v : VJ s (m + q.length)
 sh : s.shown = t
 e : adF t n j q = adF t (t.size + 2) j0 []
 eS : adS t n j q s = adS t (t.size + 2) j0 [] s0
 hM : ∀ i, (mget i M).getD (.int .i64 0) = .int .i64 (if i ∈ q then 1 else 0)
 mo : ∀ r ∈ M, plOk r.2 = true
end Go.Proofs.YtdnpkgakpiopgaaGreatDoor
namespace Go.Proofs.YtdnpkgakpiopgaaGreatDoor
set_option maxRecDepth 20000
open Go.Awp Go.RowKit
section
variable {P : Program} {T : Tab} {Γ : Ctx} {env : Env} {H L : List AObj} {Q : Exit → Act → World → Prop} {ops : Array Oper} {rest : List Oper}
end
section
variable {P : Program} {T : Tab} {env : Env} {H L : List AObj} {o : Oper} {x : TV}
end
end Go.Proofs.YtdnpkgakpiopgaaGreatDoor
namespace Go.Proofs.YtdnpkgakpiopgaaGreatDoor
set_option maxRecDepth 20000
open Go.Awp
section
variable {P : Program} {Γ : Ctx} {env : Env} {H L : List AObj} {Q : Exit → Act → World → Prop}
def AtE {α : Type} (Γ : Ctx) (env : α → Env) (H L : α → List AObj) (a : Act) (w : World) : Prop := ∃ x, At Γ (env x) (H x) (L x) a w
theorem J_midB {α : Type} (env' : α → Env) (H' L' : α → List AObj) {b : Nat} {c : Code} {n : Act → World → Prop} (h : J Γ env H L (c.wp P (Exit.inBlock b (Exit.then (AtE Γ env' H' L') Q)))) (k : ∀ x, J Γ (env' x) (H' x) (L' x) n) : J Γ env H L (c.wp P (Exit.inBlock b (Exit.then n Q))) := fun a w β s =>
 wp_mono (h a w β s) fun e a w he => by
  cases e with
  | normal =>
   obtain ⟨x, β', s'⟩ := he
   exact k x a w β' s'
  | exit i =>
   simp only [Exit.inBlock] at he ⊢
   split at he
   ·rename_i hi
    rw [if_pos hi]
    obtain ⟨x, β', s'⟩ := he
    exact k x a w β' s'
   ·rename_i hi
    rw [if_neg hi]
    exact he
  | _ => exact he
theorem J_end {α : Type} {env' : α → Env} {H' L' : α → List AObj} (x : α) (hs : AllLk env (env' x)) (hH : H = H' x) (hL : L = L' x) : J Γ env H L (AtE Γ env' H' L') := by
 subst hH hL
 exact fun a w β s => ⟨x, β, s.sim, s.step, s.env.sub (jE hs), s.size, s.defers⟩
end
end Go.Proofs.YtdnpkgakpiopgaaGreatDoor
namespace Go.Proofs.YtdnpkgakpiopgaaGreatDoor
set_option maxRecDepth 20000
open Go.Awp Go.RowKit
section
variable {P : Program} {env : Env} {H L : List AObj} {o : Oper}
end
end Go.Proofs.YtdnpkgakpiopgaaGreatDoor
namespace Go.Proofs.YtdnpkgakpiopgaaGreatDoor
set_option maxRecDepth 20000
open Go.Awp Tr
structure GS where
 s : VS
 E : Mp
 B : Mp
 L : EL
structure GOk (t : Tr) (m : Nat) (l : List KV) (G : GS) : Prop where
 g : GI t G.L G.E G.B
 v : VJ G.s (m + 2 * l.length)
 sh : G.s.shown = t
 e : G.L = entsT t l
 u : ∀ p ∈ G.L, U32 p.1 ∧ U32 p.2
structure CkI (t : Tr) (m : Nat) (n : Nat) where
 i : Nat
 h : i ≤ n
 s : VS
 v : VJ s (m + i * (t.size + 4))
 sh : s.shown = t
end Go.Proofs.YtdnpkgakpiopgaaGreatDoor
