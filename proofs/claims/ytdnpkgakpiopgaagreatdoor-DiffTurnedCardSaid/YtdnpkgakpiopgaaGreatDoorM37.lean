import Derived.Test.YtdnpkgakpiopgaaGreatDoorGo
import Derived.Test.YtdnpkgakpiopgaaGreatDoorM36
import Derived.Test.YtdnpkgakpiopgaaGreatDoorM19
import Derived.Test.YtdnpkgakpiopgaaGreatDoorM14
namespace Go.Proofs.YtdnpkgakpiopgaaGreatDoor
set_option maxRecDepth 20000
open Go.Awp Tr
def mfr (f : MF) (l : List Int) (o : Op20) (fr : Int) : Int := if (o.kind = 4 ∨ o.kind = 5) ∧ (mdo f l o fr).1.e = 0 then fr + 1 else fr
structure R20 (f : MF) (l : List Int) (fr : Int) (c : Nat) : Prop where
 ok : f.ok c
 hc : c ≤ 30000
 u : ∀ x ∈ f, U32 x.i
 k1 : f.kind 1 = 2
 b : ∀ x ∈ f, x.b.length ≤ 100000
 st : ∀ p, Nd.ok (f.stat p).1
 l : l.length = 16
 fr : 0 ≤ fr ∧ fr ≤ 1000000
set_option maxHeartbeats 16000000 in
theorem do20_own {s : VS} {m : Nat} (h : VJ s m) (hm : m ≤ 90000) {l : List Int} (hl : l.length = 16) (hlu : ∀ x ∈ l, U32 x) (o : Op20) (ho : o.ok) {i : Int} (hi : U32 i) (f0 : Int) :
  ∃ x n, Bs x (sdo s l o i).1.data ∧ Sl AV.str n (sdo s l o i).1.names ∧ Con Tryz.prog 19 [vP, opT o (ownD o.b), .p (.int .u32 i)] (dHb s l f0 o.b) (resT (sdo s l o i).1 x n) (dHb (sdo s l o i).2.1 (sdo s l o i).2.2 i o.b) [] := by
 have hl' := sdo_l ⟨hl, hlu⟩ s o i
 obtain ⟨f, c1, hc⟩ := how_do h hm hl hlu o ho hi
 rcases hc with ⟨hk, rfl⟩ | ⟨hk, hc⟩
 ·obtain ⟨x, n, hx, hn, c2⟩ := zUu h hm hl hlu o hk i ho.f ho.b
  refine ⟨x, n, hx, hn, ?_⟩
  have hx' := hx.or
  have hn' := hn.or
  clear hx hn
  generalize (sdo s l o i).1 = r at c2 hx' hn'
  generalize (sdo s l o i).2.1 = s2 at c2
  generalize (sdo s l o i).2.2 = l2 at c2 hl'
  obtain ⟨a0, a1, a2, a3, a4, a5, a6, a7, a8, a9, a10, a11, a12, a13, a14, a15, rfl⟩ := len16 hl
  obtain ⟨b0, b1, b2, b3, b4, b5, b6, b7, b8, b9, b10, b11, b12, b13, b14, b15, rfl⟩ := len16 hl'.1
  generalize r.data = rd at hx'
  generalize r.names.map AV.str = rn at hn'
  rcases hx' with rfl | rfl | rfl
  all_goals rcases hn' with rfl | rfl
  all_goals
   skip
   refine zD Tryz.func19 rfl (by kernel_rfl) rfl fun F w0 β0 => ?_
   refine zE rfl ?_
   refine go ?_
   refine j1 5 6 (dHb s2 [b0, b1, b2, b3, b4, b5, b6, b7, b8, b9, b10, b11, b12, b13, b14, b15] i o.b) (by kernel_rfl) (by kernel_rfl) ?_
   apply Exists.intro
   refine gdH ?_
   refine yJ rfl rfl rfl rfl rfl rfl (zM rfl rfl c1 rfl rfl rfl) rfl ?_
   refine gdH ?_
   refine yI rfl rfl rfl rfl rfl rfl (zA [.o 0, .o 1, .o 2, .o 3] rfl rfl c2 rfl rfl rfl ⟨⟨rfl, rfl⟩, ⟨rfl, rfl⟩, ⟨rfl, rfl⟩, ⟨rfl, rfl⟩, trivial⟩ rfl rfl rfl rfl) rfl ?_
   refine gdH ?_
   refine go ?_
   exact zC hT rfl rfl rfl
 ·obtain ⟨x, n, hx, hn, c2⟩ := hc
  have c2 := Con.argT 1 c2 rfl (oA20_le o (.cell .top))
  refine ⟨x, n, hx, hn, ?_⟩
  have hx' := hx.or
  have hn' := hn.or
  clear hx hn
  generalize (sdo s l o i).1 = r at c2 hx' hn'
  generalize (sdo s l o i).2.1 = s2 at c2
  generalize (sdo s l o i).2.2 = l2 at c2 hl'
  obtain ⟨a0, a1, a2, a3, a4, a5, a6, a7, a8, a9, a10, a11, a12, a13, a14, a15, rfl⟩ := len16 hl
  obtain ⟨b0, b1, b2, b3, b4, b5, b6, b7, b8, b9, b10, b11, b12, b13, b14, b15, rfl⟩ := len16 hl'.1
  generalize r.data = rd at hx'
  generalize r.names.map AV.str = rn at hn'
  rcases hx' with rfl | rfl | rfl
  all_goals rcases hn' with rfl | rfl
  all_goals
   skip
   refine zD Tryz.func19 rfl (by kernel_rfl) rfl fun F w0 β0 => ?_
   refine zE rfl ?_
   refine J_rep 1 (opT o anyD) rfl (opT_any o (sl_any _ _ _ _)) ?_
   refine go ?_
   refine j1 5 6 (dHb s2 [b0, b1, b2, b3, b4, b5, b6, b7, b8, b9, b10, b11, b12, b13, b14, b15] i o.b) (by kernel_rfl) (by kernel_rfl) ?_
   apply Exists.intro
   refine gdH ?_
   refine yJ rfl rfl rfl rfl rfl rfl (zM rfl rfl c1 rfl rfl rfl) rfl ?_
   refine gdH ?_
   refine yI rfl rfl rfl rfl rfl rfl (zA [.o 0, .o 1, .o 2] rfl rfl c2 rfl rfl rfl ⟨⟨rfl, rfl⟩, ⟨rfl, rfl⟩, ⟨rfl, rfl⟩, trivial⟩ rfl rfl rfl rfl) rfl ?_
   refine gdH ?_
   refine go ?_
   exact zC hT rfl rfl rfl
def openL : List Int → Nat → List Int
 | [], _ => []
 | x :: r, i => if x = 0 then openL r (i + 1) else (i : Int) :: openL r (i + 1)
structure OpI (l : List Int) where
 i : Nat
 h : i ≤ l.length
 acc : List Int
 hl : acc.length ≤ i
 e : acc ++ openL (l.drop i) i = openL l 0
theorem zVw {m : MF} {P : Int → Prop} (h : m.al P) (p : List UInt8) (k i : Int) (he : (m.make p k i).1 ≠ 0) : (m.make p k i).2.al P := by
 unfold MF.make at he ⊢
 split
 ·exact h
 split
 ·exact h
 rename_i h1 h2
 rw [if_neg h1, if_neg h2] at he
 exact absurd rfl he
theorem mdo_al2 {m : MF} {P : Int → Prop} (h : m.al P) (h1 : P 1) (l : List Int) (o : Op20) (i : Int) (hn : ¬ ((o.kind = 4 ∨ o.kind = 5) ∧ (mdo m l o i).1.e = 0)) : (mdo m l o i).2.1.al P := by
 by_cases k4 : o.kind = 4
 ·have he : (mdo m l o i).1.e ≠ 0 := fun e => hn ⟨.inl k4, e⟩
  unfold mdo at he ⊢
  rw [if_pos k4] at he ⊢
  exact zVw h _ _ _ he
 by_cases k5 : o.kind = 5
 ·have he : (mdo m l o i).1.e ≠ 0 := fun e => hn ⟨.inr k5, e⟩
  unfold mdo at he ⊢
  rw [if_neg k4, if_pos k5] at he ⊢
  exact zVw h _ _ _ he
 have e : mdo m l o i = mdo m l o 1 := by
  unfold mdo
  rw [if_neg k4, if_neg k5, if_neg k4, if_neg k5]
 rw [e]
 exact zVf h l o h1
theorem D20.stepF {s : VS} {l : List Int} {m : MF} {fr : Int} {i : Nat} (d : D20 s l m (· < fr) i) (hi : i ≤ 200) (o : Op20) (h2 : 2 ≤ fr) (hf : fr ≤ 4294967290) :
  (sdo s l o fr).1.e = 21 ∨ ((sdo s l o fr).1 = (mdo m l o fr).1 ∧ (sdo s l o fr).2.2 = (mdo m l o fr).2.2 ∧ D20 (sdo s l o fr).2.1 (sdo s l o fr).2.2 (mdo m l o fr).2.1 (· < mfr m l o fr) (i + 1)) := by
 refine (d.step (Q := (· < fr + 1)) hi o (j := fr) (by unfold U32; omega) (by omega) (by omega) (fun k h => by omega) (by omega)).imp_right fun ⟨q1, q2, q3⟩ => ⟨q1, q2, ?_⟩
 refine ⟨q3.v, q3.r, q3.w, ?_, q3.l⟩
 unfold mfr
 by_cases hc : (o.kind = 4 ∨ o.kind = 5) ∧ (mdo m l o fr).1.e = 0
 ·rw [if_pos hc]; exact q3.p
 ·rw [if_neg hc]; exact mdo_al2 d.p (by show (1 : Int) < fr; omega) l o fr hc
theorem TVLe.trans {x y z : TV} (h : TVLe x y) (k : TVLe y z) : TVLe x z := fun _w _β _G _v q => k _ _ _ _ (h _ _ _ _ q)
end Go.Proofs.YtdnpkgakpiopgaaGreatDoor
