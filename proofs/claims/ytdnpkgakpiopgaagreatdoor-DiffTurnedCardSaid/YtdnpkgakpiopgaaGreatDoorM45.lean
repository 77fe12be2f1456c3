import Derived.Test.YtdnpkgakpiopgaaGreatDoorM42
import Derived.Test.YtdnpkgakpiopgaaGreatDoorM44
import Derived.Lib.Builder
import Derived.Lib.UnsafeStr
namespace Go.Awp
open Go.RowKit
section
variable {P : Program} {H : List AObj}
end
def AllRen (σ : List Hd) (env : Env) : Env → Prop
 | [] => True
 | (t, x) :: r => (x.ren σ 0 0 = lk env t ∧ x.clo σ.length = true) ∧ AllRen σ env r
theorem AllRen.at {σ : List Hd} {env : Env} : ∀ {e : Env}, AllRen σ env e → ∀ t, lk e t = .p .top ∨ ((lk e t).ren σ 0 0 = lk env t ∧ (lk e t).clo σ.length = true)
 | [], _, t => .inl rfl
 | (s, x) :: r, h, t => by
  rw [y4]
  by_cases e : t = s
  ·subst e; rw [if_pos rfl]; exact .inr h.1
  ·rw [if_neg e]; exact AllRen.at h.2 t
theorem EnvR.lendS {w : World} {β : Hd → Nat} {H L H2 : List AObj} {F : Nat → Prop} {σ : List Hd} {env env2 : Env} {a : Act} (hl : Lend H L σ σ H2) (he : EnvR w β ⟨H, L, F⟩ env a) (hs : AllRen σ env env2) : EnvR w (lendSβ β σ) ⟨H2, [], lendSF β ⟨H, L, F⟩ σ⟩ env2 a := fun t => by
 rcases hs.at t with h | ⟨h1, h2⟩
 ·rw [h]; exact .p (.top _)
 ·exact (he t).lendS hl _ h1 h2
theorem gu {φ ψ : Prop} (k : ψ) (h : ψ → φ := by
 intro k
 repeat (first
  | with_reducible refine zJf ?_
  | ((with_reducible refine zN4 ?_); first | refine T_noU rfl rfl rfl rfl ?_ | refine yT rfl rfl rfl rfl rfl rfl (zK hT rfl) rfl ?_ | refine yT rfl rfl rfl rfl rfl rfl (z8 hT rfl) rfl ?_ | refine yT rfl rfl rfl rfl rfl rfl (zO hT rfl) rfl ?_ | refine yT rfl rfl rfl rfl rfl rfl (zN hT rfl) rfl ?_ | refine yT rfl rfl rfl rfl rfl rfl (zFq rfl rfl rfl) rfl ?_)
  | ((with_reducible refine zO0 ?_); first | refine zS rfl rfl rfl rfl rfl (zK hT rfl) rfl ?_ | refine zS rfl rfl rfl rfl rfl (z8 hT rfl) rfl ?_ | refine zS rfl rfl rfl rfl rfl (zO hT rfl) rfl ?_ | refine zS rfl rfl rfl rfl rfl (zN hT rfl) rfl ?_ | refine zS rfl rfl rfl rfl rfl (zFq rfl rfl rfl) rfl ?_))
 exact k) : φ := h k
end Go.Awp
namespace Go.Proofs.YtdnpkgakpiopgaaGreatDoor
set_option maxRecDepth 20000
open Go.Awp Tr
set_option maxHeartbeats 4000000 in
theorem zGx {m : MF} {par : Int → Int} {t : Tr} (R : Rel t.row m par) (hv : ∀ x ∈ t.row, x.1.length ≤ 100000 ∧ x.2.length ≤ 100000) (hz : t.size ≤ 20000) : Con Tryz.prog 45 [W t] [] (.p (.ps ((thgS (undD m 16 [] 1)).map thgA))) [] [] := by
 obtain ⟨x, hx, _⟩ := R.root
 have hl := und_48 R 16 []
 have hrl := yN t
 have c1 := zKs R rfl hv hz 16 [] 1 x ⟨VS.new t, []⟩ (by omega) (by simp) hx List.mem_cons_self (VK.new t) (by show 0 + _ ≤ _; omega)
 have ho := gv_und R rfl hv 16 [] 1 x ⟨VS.new t, []⟩ hx List.mem_cons_self (VK.new t)
 generalize gvD 16 [] 1 ⟨VS.new t, []⟩ = G at c1 ho
 obtain ⟨s2, o2⟩ := G
 dsimp only at ho
 rw [List.nil_append] at ho
 subst ho
 have hs : (thgS (undD m 16 [] 1)).length = (undD m 16 [] 1).length := ((zTt ltT (undD m 16 [] 1)).1).length_eq
 have c2 := zSv (undD m 16 [] 1) (by omega)
 generalize undD m 16 [] 1 = o2 at c1 c2 hs ⊢
 generalize thgS o2 = o3 at c2 hs ⊢
 change Con Tryz.prog _ [.ad (.o 0) 0, .p (.str []), .p (.int .u32 1), .p (.int .i64 0)] _ _ _ _ at c1
 have hml : (o3.map thgA).length = o2.length := by rw [List.length_map]; exact hs
 refine zD Tryz.func45 rfl (by kernel_rfl) rfl fun F w0 β0 => ?_
 refine zE rfl ?_
 refine go ?_
 refine zH rfl rfl (zB rfl rfl (zL2 t) rfl rfl rfl rfl) rfl ?_
 refine go ?_
 refine zWe 2 1 113 (e := 3) rfl rfl rfl (.inl rfl) ?_
 refine zH rfl rfl (zA [.l 2, .l 0, .l 1, .l 3] rfl rfl (c1) rfl rfl rfl ⟨⟨rfl, rfl⟩, ⟨rfl, rfl⟩, ⟨rfl, rfl⟩, ⟨rfl, rfl⟩, trivial⟩ rfl rfl rfl rfl) rfl ?_
 refine go ?_
 refine zH rfl rfl (zA [.l 3] rfl rfl (c2) rfl rfl rfl ⟨⟨rfl, rfl⟩, trivial⟩ rfl rfl rfl rfl) rfl ?_
 refine go ?_
 refine zAj 2 3 rfl rfl hml ?_
 exact zC hT rfl rfl rfl
abbrev chgA (c : Chg9) : AV := .agg [.int .u8 (c.2.toNat : Int), .str c.1]
theorem zKo (l : List Chg9) : clR (l.map chgA) := by
 intro r hr x hx
 obtain ⟨y, _, rfl⟩ := List.mem_map.1 hr
 simp [cellsOf] at hx
 rcases hx with rfl | rfl <;> rfl
theorem zD1 (l : List Chg9) : ∀ r ∈ l.map chgA, (cellsOf r).length = 2 := by
 intro r hr
 obtain ⟨y, _, rfl⟩ := List.mem_map.1 hr
 rfl
theorem zPq : ∀ (n : Nat) (l m : List Thg), l.length + m.length ≤ n → (mrgD l m).length ≤ l.length + m.length := by
 intro n
 induction n with
 | zero =>
  intro l m h
  have e1 : l = [] := List.length_eq_zero_iff.1 (by omega)
  have e2 : m = [] := List.length_eq_zero_iff.1 (by omega)
  subst e1 e2
  rw [zCv]; simp
 | succ n ih =>
  intro l m h
  cases l with
  | nil =>
   cases m with
   | nil => rw [zCv]; simp
   | cons y m =>
    have := ih [] m (by rw [List.length_cons] at h; omega)
    rw [zKl, List.length_cons, List.length_cons]; omega
  | cons x l =>
   cases m with
   | nil =>
    have := ih l [] (by rw [List.length_cons] at h; omega)
    rw [zKz, List.length_cons, List.length_cons]; omega
   | cons y m =>
    rw [List.length_cons, List.length_cons] at h
    have a1 := ih l (y :: m) (by rw [List.length_cons]; omega)
    have a2 := ih (x :: l) m (by rw [List.length_cons]; omega)
    have a3 := ih l m (by omega)
    rw [List.length_cons] at a1 a2
    rw [zKt, List.length_cons, List.length_cons]
    split
    ·rw [List.length_cons]; omega
    split
    ·rw [List.length_cons]; omega
    ·rw [List.length_append]
     split
     ·rw [List.length_nil]; omega
     ·rw [List.length_singleton]; omega
theorem zTn {L : List Thg} {i : Nat} {x : Thg} (h : L.drop i = x :: L.drop (i + 1)) : cutA (1 : Int).toNat ((((L.drop i).map thgA).length : Nat) : Int).toNat (.p (.ps ((L.drop i).map thgA))) = .p (.ps ((L.drop (i + 1)).map thgA)) := by
 rw [h]
 simp [cutA]
 exact List.take_of_length_le (by simp)
structure DfI (L M : List Thg) where
 i : Nat
 j : Nat
 h : i ≤ L.length ∧ j ≤ M.length
 o : List Chg9
 e : o ++ mrgD (L.drop i) (M.drop j) = mrgD L M
set_option maxHeartbeats 16000000 in
theorem zEn {t u : Tr} (L0 M0 : List Thg) (hl : L0.length + M0.length ≤ 1000000) (c1 : Con Tryz.prog 45 [W t] [] (.p (.ps (L0.map thgA))) [] []) (c2 : Con Tryz.prog 45 [W u] [] (.p (.ps (M0.map thgA))) [] []) : Con Tryz.prog 26 [W t, W u] [] (.p (.ps ((mrgD L0 M0).map chgA))) [] [] := by
 have hR := zPq _ L0 M0 (Nat.le_refl _)
 refine zD Tryz.func26 rfl (by kernel_rfl) rfl fun F w0 β0 => ?_
 refine zE rfl ?_
 refine go ?_
 refine zH rfl rfl (zB rfl rfl (c1) rfl rfl rfl rfl) rfl ?_
 refine go ?_
 refine zH rfl rfl (zB rfl rfl (c2) rfl rfl rfl rfl) rfl ?_
 refine go ?_
 refine zNe 7 69 (e := 2) rfl rfl (.inl rfl) ?_
 refine z9 (fun q : DfI L0 M0 => [(5, .p (.ps ((L0.drop q.i).map thgA))), (6, .p (.ps ((M0.drop q.j).map thgA))), (7, .sl (.l 0) q.o.length 0 q.o.length)]) (fun _ => []) (fun q => [.arr 69 true 2 (q.o.map chgA)]) (fun q => (L0.length - q.i) + (M0.length - q.j)) ⟨0, 0, by omega, [], rfl⟩ ⟨rfl, rfl, rfl, trivial⟩ rfl rfl (fun q => ?_)
 have he := q.e
 have hq := q.h
 have hlen : q.o.length + (mrgD (L0.drop q.i) (M0.drop q.j)).length ≤ 1000000 := by rw [← List.length_append, he]; omega
 have hml : (q.o.map chgA).length = q.o.length := by simp
 have nl : ((L0.drop q.i).map thgA).length = L0.length - q.i := by simp
 have nm : ((M0.drop q.j).map thgA).length = M0.length - q.j := by simp
 refine go ?_
 by_cases h1 : q.i < L0.length
 ·have dl : L0.drop q.i = L0[q.i] :: L0.drop (q.i + 1) := List.drop_eq_getElem_cons h1
  generalize L0[q.i] = x at dl
  have gl : ((L0.drop q.i).map thgA)[0]? = some (thgA x) := by rw [dl]; rfl
  have cl1 := zTn dl
  by_cases h2 : q.j < M0.length
  ·have dm : M0.drop q.j = M0[q.j] :: M0.drop (q.j + 1) := List.drop_eq_getElem_cons h2
   generalize M0[q.j] = y at dm
   have gm : ((M0.drop q.j).map thgA)[0]? = some (thgA y) := by rw [dm]; rfl
   have cm1 := zTn dm
   rw [dl, dm, zKt] at he hlen
   refine zG rfl (by rw [nl, nm]; simp; omega) ?_
   refine go ?_
   refine yE [_] [] (by kernel_rfl) (by kernel_rfl) rfl ?_
   refine gu ?_
   refine zI5 3 rfl (by rw [nm]; simp; omega) rfl ?_
   refine gu ?_
   refine zT9 7 rfl (by rw [nl]; simp; omega) rfl ?_
   refine gu ?_
   refine yT rfl rfl rfl rfl rfl rfl (zJ hT rfl rfl rfl rfl rfl (.ps _) (by decide) (by rw [nl]; omega)) rfl ?_
   refine gu ?_
   refine yT rfl rfl rfl rfl rfl rfl (zI hT rfl rfl (.ps _) gl rfl rfl) rfl ?_
   refine gu ?_
   refine yT rfl rfl rfl rfl rfl rfl (zJ hT rfl rfl rfl rfl rfl (.ps _) (by decide) (by rw [nm]; omega)) rfl ?_
   refine gu ?_
   refine yT rfl rfl rfl rfl rfl rfl (zI hT rfl rfl (.ps _) gm rfl rfl) rfl ?_
   refine gu ?_
   refine go ?_
   by_cases k1 : lt x.1 y.1
   ·rw [if_pos k1] at he hlen
    rw [List.length_cons] at hlen
    refine zG rfl k1 ?_
    refine go ?_
    refine zH rfl rfl (zJ hT rfl rfl rfl rfl rfl (.ps _) (by decide) (by rw [nl]; omega)) rfl ?_
    refine go ?_
    refine zH rfl rfl (zI hT rfl rfl (.ps _) gl rfl rfl) rfl ?_
    refine go ?_
    refine zH rfl rfl (yW hT rfl rfl rfl rfl hml rfl rfl (.rd (.ps _)) jQ (zKo [(x.1, 45)]) (zD1 [(x.1, 45)]) (by decide) (by show (q.o.length + 1) * 24 ≤ _; omega)) rfl ?_
    refine go ?_
    refine zH rfl rfl (zBt (y9 hT rfl rfl rfl rfl (.ps _) rfl rfl (by decide) (by rw [nl]; omega) (by omega) (q9 _)) cl1) rfl ?_
    refine go ?_
    refine zY 1 [(5, .p (.ps ((L0.drop (q.i + 1)).map thgA))), (6, .p (.ps ((M0.drop q.j).map thgA))), (7, .sl (.l 0) (q.o.length + 1) 0 (q.o.length + 1))] ⟨rfl, rfl, rfl, trivial⟩ rfl rfl ?_
    refine zR ⟨q.i + 1, q.j, by omega, q.o ++ [(x.1, 45)], by rw [List.append_assoc, ← he, dm]; rfl⟩ (by show (L0.length - (q.i + 1)) + (M0.length - q.j) < (L0.length - q.i) + (M0.length - q.j); omega) ⟨rfl, rfl, (by show TV.sl _ _ _ _ = TV.sl _ _ _ _; rw [List.length_append]; rfl), trivial⟩ rfl (by dsimp only; rw [List.map_append]; rfl)
   rw [if_neg k1] at he hlen
   refine zF rfl (by cases h : Op.bytesLess x.1 y.1 with | false => rfl | true => exact absurd h k1) ?_
   refine go ?_
   refine yE [_] [] (by kernel_rfl) (by kernel_rfl) rfl ?_
   refine gu ?_
   refine zI5 3 rfl (by rw [nl]; simp; omega) rfl ?_
   refine gu ?_
   refine yT rfl rfl rfl rfl rfl rfl (zJ hT rfl rfl rfl rfl rfl (.ps _) (by decide) (by rw [nm]; omega)) rfl ?_
   refine gu ?_
   refine yT rfl rfl rfl rfl rfl rfl (zI hT rfl rfl (.ps _) gm rfl rfl) rfl ?_
   refine gu ?_
   refine yT rfl rfl rfl rfl rfl rfl (zJ hT rfl rfl rfl rfl rfl (.ps _) (by decide) (by rw [nl]; omega)) rfl ?_
   refine gu ?_
   refine yT rfl rfl rfl rfl rfl rfl (zI hT rfl rfl (.ps _) gl rfl rfl) rfl ?_
   refine gu ?_
   refine go ?_
   by_cases k2 : lt y.1 x.1
   ·rw [if_pos k2] at he hlen
    rw [List.length_cons] at hlen
    refine zG rfl k2 ?_
    refine go ?_
    refine zH rfl rfl (zJ hT rfl rfl rfl rfl rfl (.ps _) (by decide) (by rw [nm]; omega)) rfl ?_
    refine go ?_
    refine zH rfl rfl (zI hT rfl rfl (.ps _) gm rfl rfl) rfl ?_
    refine go ?_
    refine zH rfl rfl (yW hT rfl rfl rfl rfl hml rfl rfl (.rd (.ps _)) jQ (zKo [(y.1, 43)]) (zD1 [(y.1, 43)]) (by decide) (by show (q.o.length + 1) * 24 ≤ _; omega)) rfl ?_
    refine go ?_
    refine zH rfl rfl (zBt (y9 hT rfl rfl rfl rfl (.ps _) rfl rfl (by decide) (by rw [nm]; omega) (by omega) (q9 _)) cm1) rfl ?_
    refine go ?_
    refine zY 1 [(5, .p (.ps ((L0.drop q.i).map thgA))), (6, .p (.ps ((M0.drop (q.j + 1)).map thgA))), (7, .sl (.l 0) (q.o.length + 1) 0 (q.o.length + 1))] ⟨rfl, rfl, rfl, trivial⟩ rfl rfl ?_
    refine zR ⟨q.i, q.j + 1, by omega, q.o ++ [(y.1, 43)], by rw [List.append_assoc, ← he, dl]; rfl⟩ (by show (L0.length - q.i) + (M0.length - (q.j + 1)) < (L0.length - q.i) + (M0.length - q.j); omega) ⟨rfl, rfl, (by show TV.sl _ _ _ _ = TV.sl _ _ _ _; rw [List.length_append]; rfl), trivial⟩ rfl (by dsimp only; rw [List.map_append]; rfl)
   rw [if_neg k2] at he hlen
   rw [List.length_append] at hlen
   refine zF rfl (by cases h : Op.bytesLess y.1 x.1 with | false => rfl | true => exact absurd h k2) ?_
   refine go ?_
   refine yE [_] [] (by kernel_rfl) (by kernel_rfl) rfl ?_
   refine gd ?_
   refine zS rfl rfl rfl rfl rfl (zJ hT rfl rfl rfl rfl rfl (.ps _) (by decide) (by rw [nl]; omega)) rfl ?_
   refine gd ?_
   refine zS rfl rfl rfl rfl rfl (zI hT rfl rfl (.ps _) gl rfl rfl) rfl ?_
   refine gd ?_
   refine zS rfl rfl rfl rfl rfl (zJ hT rfl rfl rfl rfl rfl (.ps _) (by decide) (by rw [nm]; omega)) rfl ?_
   refine gd ?_
   refine zS rfl rfl rfl rfl rfl (zI hT rfl rfl (.ps _) gm rfl rfl) rfl ?_
   refine gd ?_
   refine zS rfl rfl rfl rfl rfl (yF hT rfl (by kernel_rfl) rfl rfl rfl rfl rfl) rfl ?_
   refine gd ?_
   refine go ?_
   by_cases k3 : x = y
   ·subst k3
    rw [if_pos rfl, List.nil_append] at he
    refine zF rfl (by simp) ?_
    refine go ?_
    refine yE [_] [] (by kernel_rfl) (by kernel_rfl) rfl ?_
    refine gd ?_
    refine zS rfl rfl rfl rfl rfl (zBt (y9 hT rfl rfl rfl rfl (.ps _) rfl rfl (by decide) (by rw [nl]; omega) (by omega) (q9 _)) cl1) rfl ?_
    refine gd ?_
    refine zS rfl rfl rfl rfl rfl (zBt (y9 hT rfl rfl rfl rfl (.ps _) rfl rfl (by decide) (by rw [nm]; omega) (by omega) (q9 _)) cm1) rfl ?_
    refine gd ?_
    refine go ?_
    refine zY 1 [(5, .p (.ps ((L0.drop (q.i + 1)).map thgA))), (6, .p (.ps ((M0.drop (q.j + 1)).map thgA))), (7, .sl (.l 0) q.o.length 0 q.o.length)] ⟨rfl, rfl, rfl, trivial⟩ rfl rfl ?_
    refine zR ⟨q.i + 1, q.j + 1, by omega, q.o, he⟩ (by show (L0.length - (q.i + 1)) + (M0.length - (q.j + 1)) < (L0.length - q.i) + (M0.length - q.j); omega) ⟨rfl, rfl, rfl, trivial⟩ rfl rfl
   ·rw [if_neg k3] at he hlen
    rw [List.length_singleton] at hlen
    refine zG rfl (by
     obtain ⟨x1, x2, x3⟩ := x
     obtain ⟨y1, y2, y3⟩ := y
     simp at k3 ⊢
     by_cases a1 : x1 = y1
     ·by_cases a2 : x2 = y2
      ·exact .inr (.inr (k3 a1 a2))
      ·exact .inr (.inl a2)
     ·exact .inl a1) ?_
    refine go ?_
    refine zH rfl rfl (zJ hT rfl rfl rfl rfl rfl (.ps _) (by decide) (by rw [nl]; omega)) rfl ?_
    refine go ?_
    refine zH rfl rfl (zI hT rfl rfl (.ps _) gl rfl rfl) rfl ?_
    refine go ?_
    refine zH rfl rfl (yW hT rfl rfl rfl rfl hml rfl rfl (.rd (.ps _)) jQ (zKo [(x.1, 126)]) (zD1 [(x.1, 126)]) (by decide) (by show (q.o.length + 1) * 24 ≤ _; omega)) rfl ?_
    refine go ?_
    refine yE [_] [] (by kernel_rfl) (by kernel_rfl) rfl ?_
    refine gd ?_
    refine zS rfl rfl rfl rfl rfl (zBt (y9 hT rfl rfl rfl rfl (.ps _) rfl rfl (by decide) (by rw [nl]; omega) (by omega) (q9 _)) cl1) rfl ?_
    refine gd ?_
    refine zS rfl rfl rfl rfl rfl (zBt (y9 hT rfl rfl rfl rfl (.ps _) rfl rfl (by decide) (by rw [nm]; omega) (by omega) (q9 _)) cm1) rfl ?_
    refine gd ?_
    refine go ?_
    refine zY 1 [(5, .p (.ps ((L0.drop (q.i + 1)).map thgA))), (6, .p (.ps ((M0.drop (q.j + 1)).map thgA))), (7, .sl (.l 0) (q.o.length + 1) 0 (q.o.length + 1))] ⟨rfl, rfl, rfl, trivial⟩ rfl rfl ?_
    refine zR ⟨q.i + 1, q.j + 1, by omega, q.o ++ [(x.1, 126)], by rw [List.append_assoc, ← he]⟩ (by show (L0.length - (q.i + 1)) + (M0.length - (q.j + 1)) < (L0.length - q.i) + (M0.length - q.j); omega) ⟨rfl, rfl, (by show TV.sl _ _ _ _ = TV.sl _ _ _ _; rw [List.length_append]; rfl), trivial⟩ rfl (by dsimp only; rw [List.map_append]; rfl)
  ·have dm : M0.drop q.j = [] := List.drop_eq_nil_of_le (by omega)
   rw [dl, dm, zKz, List.length_cons] at hlen
   rw [dl, dm, zKz] at he
   refine zG rfl (by rw [nl, nm]; simp; omega) ?_
   refine go ?_
   refine yE [_] [] (by kernel_rfl) (by kernel_rfl) rfl ?_
   refine gu ?_
   refine zT9 3 rfl (by rw [nm]; simp; omega) rfl ?_
   refine gu ?_
   refine go ?_
   refine zH rfl rfl (zJ hT rfl rfl rfl rfl rfl (.ps _) (by decide) (by rw [nl]; omega)) rfl ?_
   refine go ?_
   refine zH rfl rfl (zI hT rfl rfl (.ps _) gl rfl rfl) rfl ?_
   refine go ?_
   refine zH rfl rfl (yW hT rfl rfl rfl rfl hml rfl rfl (.rd (.ps _)) jQ (zKo [(x.1, 45)]) (zD1 [(x.1, 45)]) (by decide) (by show (q.o.length + 1) * 24 ≤ _; omega)) rfl ?_
   refine go ?_
   refine zH rfl rfl (zBt (y9 hT rfl rfl rfl rfl (.ps _) rfl rfl (by decide) (by rw [nl]; omega) (by omega) (q9 _)) cl1) rfl ?_
   refine go ?_
   refine zY 1 [(5, .p (.ps ((L0.drop (q.i + 1)).map thgA))), (6, .p (.ps ((M0.drop q.j).map thgA))), (7, .sl (.l 0) (q.o.length + 1) 0 (q.o.length + 1))] ⟨rfl, rfl, rfl, trivial⟩ rfl rfl ?_
   refine zR ⟨q.i + 1, q.j, by omega, q.o ++ [(x.1, 45)], by rw [List.append_assoc, ← he, dm]; rfl⟩ (by show (L0.length - (q.i + 1)) + (M0.length - q.j) < (L0.length - q.i) + (M0.length - q.j); omega) ⟨rfl, rfl, (by show TV.sl _ _ _ _ = TV.sl _ _ _ _; rw [List.length_append]; rfl), trivial⟩ rfl (by dsimp only; rw [List.map_append]; rfl)
 ·have dl : L0.drop q.i = [] := List.drop_eq_nil_of_le (by omega)
  by_cases h2 : q.j < M0.length
  ·have dm : M0.drop q.j = M0[q.j] :: M0.drop (q.j + 1) := List.drop_eq_getElem_cons h2
   generalize M0[q.j] = y at dm
   have gm : ((M0.drop q.j).map thgA)[0]? = some (thgA y) := by rw [dm]; rfl
   have cm1 := zTn dm
   rw [dl, dm, zKl, List.length_cons] at hlen
   rw [dl, dm, zKl] at he
   refine zG rfl (by rw [nl, nm]; simp; omega) ?_
   refine go ?_
   refine yE [_] [] (by kernel_rfl) (by kernel_rfl) rfl ?_
   refine gu ?_
   refine zI5 3 rfl (by rw [nm]; simp; omega) rfl ?_
   refine gu ?_
   refine zI5 7 rfl (by rw [nl]; simp; omega) rfl ?_
   refine gu ?_
   refine go ?_
   refine yE [_] [] (by kernel_rfl) (by kernel_rfl) rfl ?_
   refine gu ?_
   refine zT9 3 rfl (by rw [nl]; simp; omega) rfl ?_
   refine gu ?_
   refine go ?_
   refine zH rfl rfl (zJ hT rfl rfl rfl rfl rfl (.ps _) (by decide) (by rw [nm]; omega)) rfl ?_
   refine go ?_
   refine zH rfl rfl (zI hT rfl rfl (.ps _) gm rfl rfl) rfl ?_
   refine go ?_
   refine zH rfl rfl (yW hT rfl rfl rfl rfl hml rfl rfl (.rd (.ps _)) jQ (zKo [(y.1, 43)]) (zD1 [(y.1, 43)]) (by decide) (by show (q.o.length + 1) * 24 ≤ _; omega)) rfl ?_
   refine go ?_
   refine zH rfl rfl (zBt (y9 hT rfl rfl rfl rfl (.ps _) rfl rfl (by decide) (by rw [nm]; omega) (by omega) (q9 _)) cm1) rfl ?_
   refine go ?_
   refine zY 1 [(5, .p (.ps ((L0.drop q.i).map thgA))), (6, .p (.ps ((M0.drop (q.j + 1)).map thgA))), (7, .sl (.l 0) (q.o.length + 1) 0 (q.o.length + 1))] ⟨rfl, rfl, rfl, trivial⟩ rfl rfl ?_
   refine zR ⟨q.i, q.j + 1, by omega, q.o ++ [(y.1, 43)], by rw [List.append_assoc, ← he, dl]; rfl⟩ (by show (L0.length - q.i) + (M0.length - (q.j + 1)) < (L0.length - q.i) + (M0.length - q.j); omega) ⟨rfl, rfl, (by show TV.sl _ _ _ _ = TV.sl _ _ _ _; rw [List.length_append]; rfl), trivial⟩ rfl (by dsimp only; rw [List.map_append]; rfl)
  ·have dm : M0.drop q.j = [] := List.drop_eq_nil_of_le (by omega)
   rw [dl, dm, zCv, List.append_nil] at he
   rw [he] at hml
   refine zF rfl (by rw [nl, nm]; simp; omega) ?_
   rw [← he]
   refine go ?_
   refine zAj 4 0 rfl rfl (by simp) ?_
   refine zY 0 [(4, .p (.ps (q.o.map chgA)))] ⟨rfl, trivial⟩ rfl rfl ?_
   exact zC hT rfl rfl rfl
end Go.Proofs.YtdnpkgakpiopgaaGreatDoor
namespace Go.Awp
open Go.RowKit
section
variable {P : Program} {T : Tab} {env : Env} {H L : List AObj} {o : Oper} {x : TV}
theorem zMg {w : World} {β : Hd → Nat} {F : Nat → Prop} {i b : Nat} {cs : List TV} (hS : Sim w β ⟨H, L, F⟩) (hi : H[i]? = some (.box b cs)) : w.shape? (β (.o i)) = some (b, cs.length) := by
 obtain ⟨arr, h1, h2, _⟩ := hS.objs (.o i) _ hi
 unfold World.shape?
 rw [h1]
 simp [h2]
theorem zOq {y : Operand} {s d : TypeId} {a : Act} {v u : Value} {w : World} (ho : o.op = .convert s d y) (hv : a.eval y = v) (h : (convert s d v).run P w = .ok u w) : (execOp a.eval o).run P w = .ok (.value u) w := by
 simp only [execOp, ho, hv, Sem.run_bind, h, Result.andThen_ok, Sem.run_pure]
theorem zI6 {s d e : TypeId} {y : Operand} {i b n : Nat} {cs : List TV} (ho : o.op = .convert s d y) (h1 : P.underlying s = some (.pointer e)) (h2 : P.underlying d = some .unsafePointer) (h3 : (P.info? e).map (·.size) = some (n + 1)) (hy : evA env y = .ad (.o i) 0) (hi : H[i]? = some (.box b cs)) (hc : Nat.blt 0 cs.length = true) :
  OpR P o env H L (.ad (.o i) 0) H L :=
 zQ fun F w β a hS he => by
  have hp := zL he y
  rw [hy] at hp
  have hv := zAq hi hp
  rw [hv] at hp
  obtain ⟨j, hj, hjs⟩ := Option.map_eq_some_iff.1 h3
  exact ⟨_, zOq ho hv (Lib.run_to_unsafe _ _ h1 h2 hj (by omega) (zMg hS hi) (by simpa [Nat.blt_eq] using hc)), hp⟩
theorem zJ1 {s d e : TypeId} {y : Operand} {i b n k : Nat} {cs : List TV} (ho : o.op = .convert s d y) (h1 : P.underlying s = some .unsafePointer) (h2 : P.underlying d = some (.pointer e)) (h3 : (P.info? e).map (·.size) = some n) (hy : evA env y = .ad (.o i) 0) (hi : H[i]? = some (.box b cs)) (hk : cs.length = k) (h4 : liesAt P P.depth b (k / P.cellsOf b) 0 e 1 = true) :
  OpR P o env H L (.ad (.o i) 0) H L :=
 zQ fun F w β a hS he => by
  have hp := zL he y
  rw [hy] at hp
  have hv := zAq hi hp
  rw [hv] at hp
  obtain ⟨j, hj, hjs⟩ := Option.map_eq_some_iff.1 h3
  subst hk
  exact ⟨_, zOq ho hv (Lib.run_from_unsafe _ _ h1 h2 hj (zMg hS hi) h4), hp⟩
theorem esc_run {i : Nat} (w : World) (β : Hd → Nat) (G : Hp) (vs : List Value) (h : RepL w β G [.ad (.o i) 0] vs) : ∃ v, (Extern.AbiNoEscape.same vs.toArray).run P w = .ok v w ∧ RepT w β G (.ad (.o i) 0) v := by
 obtain ⟨hl, hr⟩ := h
 match vs, hl with
 | [v], _ => exact ⟨v, rfl, hr 0 _ v rfl rfl⟩
theorem zNh {op : BinOp} {t t2 : TypeId} {y z : Operand} {i off b e : Nat} {te : TyI} {cs : List TV} (hT : TabOk P T) (ho : o.op = .binOp op t y z t2) (h1 : P.underlying t = some (.pointer e)) (hte : tlk T e = some te) (hy : evA env y = .ad (.o i) off) (hz : evA env z = .ad (.o i) off) (hi : H[i]? = some (.box b cs)) (hx : eqA op true = some x) : OpR P o env H L x H L :=
 zQ fun F w β a hS he => by
  have val : ∀ q : Operand, evA env q = .ad (.o i) off → a.eval q = .pointer (some ⟨β (.o i), off, none⟩) := fun q hq => by
   have hp := zL he q
   rw [hq] at hp
   exact zAq hi hp
  have hv := val y hy
  have hv2 := val z hz
  obtain ⟨inf, ue, ok⟩ := hT.get hte
  have hr : (Op.equal t (.pointer (some ⟨β (.o i), off, none⟩)) (.pointer (some ⟨β (.o i), off, none⟩))).run P w = .ok true w := by
   have key : ∀ d, (Op.equalIn (d + 1) t (.pointer (some ⟨β (.o i), off, none⟩)) (.pointer (some ⟨β (.o i), off, none⟩))).run P w = .ok true w := by
    intro d
    simp [Op.equalIn, run_underlying h1, ok.run_size, sameAddr]
   exact key 9999
  obtain ⟨c, rfl, h3⟩ := jR (P := P) (w := w) (t := t) hx hr (zAa t _ _) (j7 ..)
  refine ⟨.bool c, ?_, .p (.bool ..)⟩
  simp only [execOp, ho, hv, hv2, Sem.run_bind]
  rw [eqGuard_at_pointer]
  simp [h3]
theorem zHn {ts : Array TypeId} {y : Operand} {i n : Nat} {Ty : TypeId} {b : Bool} {rows : List AV} (ho : o.op = .call { callee := .builtin .unsafeSliceData, args := #[y], argTypes := ts }) (hy : evA env y = .sl (.o i) n 0 n) (hi : H[i]? = some (.arr Ty b 1 rows)) (hn : rows.length = n) (h0 : 0 < n) :
  OpR P o env H L (.el (.sl (.o i) n 0 n) 1 0 0) H L :=
 zQ fun F w β a hS he => by
  have hp := zL he y
  rw [hy] at hp
  have hp2 := hp
  generalize hv : a.eval y = v at hp hp2
  cases hp with | sl _ _ _ _ _ _ _ hsv =>
  obtain ⟨ao, cap, rfl, hle, _, hao⟩ := (hsv _ _ _ _ hi hn).val
  have hao := hao h0
  subst hao
  have hr := Lib.run_unsafeSliceData_row (P := P) (w := w) ts o.type ⟨β (.o i), 0 * 1, none⟩ n cap (by omega)
  refine ⟨.pointer (some ⟨β (.o i), 0 * 1, none⟩), ?_, ?_⟩
  ·simp only [execOp, ho, resolve, invoke, builtin, Sem.run_bind, Sem.run_pure, Result.andThen_ok, List.map_toArray, List.map_cons, List.map_nil, hv]
   simp [hr]
  ·exact .el 1 0 0 _ n cap hp2 h0
theorem zLx {w : World} {a : Addr} {n : Nat} {b : Nat} (h : b ≠ a.block) : (w.freeze a n).heap[b]? = w.heap[b]? := by
 unfold World.freeze
 split
 ·rfl
 ·simp [Array.getElem?_modify, Ne.symm h]
theorem zM3 {w : World} {a : Addr} {n : Nat} : (w.freeze a n).heap.size = w.heap.size := by
 unfold World.freeze
 split <;> simp
theorem zJl {w : World} {a : Addr} {n : Nat} : (w.freeze a n).output = w.output := by
 unfold World.freeze
 split <;> rfl
theorem zSs {w : World} {a : Addr} {n : Nat} : (w.freeze a n).os = w.os := by
 unfold World.freeze
 split <;> rfl
theorem zEs {pt it e : TypeId} {y z : Operand} {i n : Nat} {l : List UInt8} {b : Bool} (ho : o.op = .call { callee := .builtin .unsafeString, args := #[y, z], argTypes := #[pt, it] }) (h1 : P.underlying pt = some (.pointer e)) (h2 : P.cellsOf e = 1) (hy : evA env y = .el (.sl (.o i) n 0 n) 1 0 0) (hz : evA env z = .p (.int .i64 n)) (hi : H[i]? = some (.arr e b 1 (bv l))) (hn : l.length = n) (h0 : 0 < n) :
  OpR P o env H L (.p (.str l)) (H.set i .dead) L :=
 zIl hi (AObj.off_arr.2 fun _ => by rw [bv_length]; omega) rfl fun F w β a hS he => by
  have hp := zL he y
  rw [hy] at hp
  have hzz := zL he z
  rw [hz] at hzz
  generalize hv : a.eval y = v at hp
  obtain ⟨cs, fr, g1, g2, g3, g4, g5, g6, g7⟩ := (hS.objs (.o i) _ hi).2 (AObj.off_arr.2 fun _ => by rw [bv_length]; omega)
  cases hp with | el _ _ _ ad len' c hs hlt =>
  cases hs with | sl _ _ _ _ _ _ _ hsv =>
  obtain ⟨ao, cap, hq, hle, hcm, hao⟩ := (hsv _ _ _ _ hi (by rw [bv_length]; exact hn)).val
  simp only [Value.slice.injEq] at hq
  obtain ⟨q1, q2, q3⟩ := hq
  subst q2 q3
  rw [hao h0] at q1
  obtain rfl := Option.some.inj q1
  have hadd : (⟨β (.o i), 0 * 1, none⟩ : Addr).add (0 * 1 + 0) = ⟨β (.o i), 0, none⟩ := by rw [Addr.add_lit]
  rw [hadd] at hv
  subst hn
  have hne : l ≠ [] := fun e => by rw [e] at h0; simp at h0
  have hr := Lib.run_unsafeString_row (P := P) w pt it o.type e h1 h2 (β (.o i)) cs.size (by unfold World.shape?; rw [g1]) l hne (by rw [bv_length] at g2; omega) (by unfold maxLen at hcm; omega) fun j x hx => by
   have hb : (bv l)[j]? = some (.int .u8 x.toNat) := by rw [zFe, hx]; rfl
   obtain ⟨u, hu1, hu2⟩ := g7 j 0 _ (.int .u8 x.toNat) hb rfl
   cases hu2
   rw [Addr.add_lit, cell_of_row _ _ _ _ _ _ g1]
   simpa using hu1
  refine ⟨.string ⟨l.toArray⟩, w.freeze ⟨β (.o i), 0, none⟩ l.length, .inl ?_, zSs, (by unfold World.freeze; split <;> rfl), zJl, zM3, fun b hb => zLx hb, by simp [ObjGo], fun _ => ⟨trivial, .p (.str l)⟩⟩
  simp only [execOp, ho, resolve, invoke, builtin, Sem.run_bind, Sem.run_pure, Result.andThen_ok, List.map_toArray, List.map_cons, List.map_nil, hv, hzz.int_inv]
  simp [hr]
theorem zHk {ts : Array TypeId} {y : Operand} (ho : o.op = .call { callee := .builtin .unsafeSliceData, args := #[y], argTypes := ts }) (hy : evA env y = .p .nils) : OpR P o env H L (.p .nilp) H L :=
 zQ fun F w β a hS he => by
  have hp := zL he y
  rw [hy] at hp
  generalize hv : a.eval y = v at hp
  cases hp with | p hp =>
  cases hp
  refine ⟨.pointer none, ?_, .p .nilp⟩
  simp only [execOp, ho, resolve, invoke, builtin, Sem.run_bind, Sem.run_pure, Result.andThen_ok, List.map_toArray, List.map_cons, List.map_nil, hv]
  simp [Lib.run_unsafeSliceData_nil]
theorem zE0 {pt it : TypeId} {y z : Operand} (ho : o.op = .call { callee := .builtin .unsafeString, args := #[y, z], argTypes := #[pt, it] }) (hy : evA env y = .p .nilp) (hz : evA env z = .p (.int .i64 0)) : OpR P o env H L (.p (.str [])) H L :=
 zQ fun F w β a hS he => by
  have hp := zL he y
  rw [hy] at hp
  have hzz := zL he z
  rw [hz] at hzz
  generalize hv : a.eval y = v at hp
  cases hp with | p hp =>
  cases hp
  refine ⟨.string ByteArray.empty, ?_, .p (.str [])⟩
  simp only [execOp, ho, resolve, invoke, builtin, Sem.run_bind, Sem.run_pure, Result.andThen_ok, List.map_toArray, List.map_cons, List.map_nil, hv, hzz.int_inv]
  simp [Lib.run_unsafeString_none]
end
end Go.Awp
