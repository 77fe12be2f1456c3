import Derived.Test.YtdkegmmigongoaaGreatDoorGo
import Derived.Test.YtdkegmmigongoaaGreatDoorM27
namespace Go.Proofs.YtdkegmmigongoaaGreatDoor
set_option maxRecDepth 20000
open Go.Awp Tr
structure SV (s s' : VS) : Prop where
 w : s'.writes = s.writes
 sh : s'.shown = s.shown
theorem SV.refl (s : VS) : SV s s := ⟨rfl, rfl⟩
theorem SV.trans {a b c : VS} (h : SV a b) (k : SV b c) : SV a c := ⟨k.w.trans h.w, k.sh.trans h.sh⟩
theorem SV.rds (s : VS) (ks : List (List UInt8)) : SV s (s.rds ks) := ⟨rfl, rfl⟩
theorem SV.rdp (s : VS) (p : List UInt8) : SV s (s.rdp p) := ⟨rfl, rfl⟩
theorem SV.rd (s : VS) (k : List UInt8) : SV s (s.rd k) := ⟨rfl, rfl⟩
theorem SV.range (s : VS) (a b : List UInt8) : SV s (s.range a b) := by
 unfold VS.range
 split <;> exact ⟨rfl, rfl⟩
abbrev F01 (e : Int) : Prop := e = 21 ∨ e = 0
theorem first_01 {l : List Int} (h : ∀ e ∈ l, F01 e) : F01 (firstE l) := (firstE_or l h).imp_right (·.1)
theorem linksE_01 (s : VS) (d : Int) : F01 (s.linksE d) := fullE_01 _
theorem makeAt_01 (s : VS) (a : Sp) (k i : Int) : F01 (s.makeAt a k i).1 := by
 unfold VS.makeAt
 dsimp only
 split
 ·exact first_01 fun e he => by
   simp only [List.mem_cons, List.not_mem_nil, or_false] at he
   rcases he with rfl | rfl
   ·exact fullE_01 _
   ·exact linksE_01 _ _
 ·exact fullE_01 _
theorem movesAt_01 (s : VS) (a t : Sp) : F01 (s.movesAt a t).1 := by
 unfold VS.movesAt
 dsimp only
 split
 ·exact fullE_01 _
 ·exact first_01 fun e he => by
   simp only [List.mem_cons, List.not_mem_nil, or_false] at he
   rcases he with rfl | rfl | rfl | rfl
   ·exact fullE_01 _
   ·exact fullE_01 _
   ·exact linksE_01 _ _
   ·exact linksE_01 _ _
theorem cutsL_01 : ∀ (R : List KV) (s : VS) (e : Int), F01 e → F01 (s.cutsL R e).1
 | [], _, _, h => h
 | x :: r, s, e, h => by
  unfold VS.cutsL
  exact cutsL_01 r _ _ (first_01 fun e' he => by
   simp only [List.mem_cons, List.not_mem_nil, or_false] at he
   rcases he with rfl | rfl
   ·exact h
   ·exact fullE_01 _)
theorem find_sh {s s' : VS} (h : s'.shown = s.shown) (p : List UInt8) : s'.find p = s.find p := by
 have hl : ∀ j, s'.load j = s.load j := fun j => by unfold VS.load; rw [h]
 have hc : ∀ j x, s'.child j x = s.child j x := fun j x => by unfold VS.child; rw [h]
 have hst : ∀ a x, stepF s' a x = stepF s a x := fun a x => by unfold stepF; simp only [hl, hc]
 have hg : ∀ (N : List (List UInt8)) a ks, goF s' N a ks = goF s N a ks := fun N => by
  induction N with
  | nil => intros; rfl
  | cons x r ih => intro a ks; rw [goF_cons, goF_cons, hst, ih]
 unfold VS.find
 rw [hg]
 unfold spR
 rw [hl]
theorem there_sh {s s' : VS} (h : s'.shown = s.shown) (p : List UInt8) (b : Bool) : s'.there p b = s.there p b := by unfold VS.there; rw [find_sh h]
structure Rf (s : VS) (q q' : Int × VS) : Prop where
 n : F01 q.1 ∨ SV s q.2
 a : F01 q.1 ∨ q'.1 = q.1
theorem Rf.no {s : VS} {q q' : Int × VS} (h : F01 q.1) : Rf s q q' := ⟨.inl h, .inl h⟩
theorem Rf.yes {s : VS} {q q' : Int × VS} (h : SV s q.2) (k : q'.1 = q.1) : Rf s q q' := ⟨.inr h, .inr k⟩
theorem Rf.up {s0 s : VS} {q q' : Int × VS} (h : SV s0 s) (k : Rf s q q') : Rf s0 q q' := ⟨k.n.imp_right h.trans, k.a⟩
theorem make_rf {s s' : VS} (h : s'.shown = s.shown) (p : List UInt8) (k i : Int) : Rf s (s.make p k i) (s'.make p k i) := by
 unfold VS.make
 rw [find_sh h]
 split
 ·exact Rf.yes (SV.rds _ _) rfl
 split
 ·exact Rf.yes (SV.rds _ _) rfl
 ·exact Rf.no (makeAt_01 _ _ _ _)
theorem removes_rf {s s' : VS} (h : s'.shown = s.shown) (a : Sp) : Rf s (s.removes a) (s'.removes a) := by
 unfold VS.removes
 rw [h]
 split
 ·exact Rf.yes (SV.refl _) rfl
 split
 ·exact Rf.yes (SV.range _ _ _) rfl
 ·dsimp only
  exact Rf.no (first_01 fun e he => by
   simp only [List.mem_cons, List.not_mem_nil, or_false] at he
   rcases he with rfl | rfl
   ·exact fullE_01 _
   ·exact linksE_01 _ _)
theorem unlinks_rf {s s' : VS} (a : Sp) : Rf s (s.unlinks a) (s'.unlinks a) := by
 unfold VS.unlinks
 split
 ·exact Rf.yes (SV.refl _) rfl
 dsimp only
 split
 ·exact Rf.no (first_01 fun e he => by
   simp only [List.mem_cons, List.not_mem_nil, or_false] at he
   rcases he with rfl | rfl
   ·exact fullE_01 _
   ·exact fullE_01 _)
 ·exact Rf.no (first_01 fun e he => by
   simp only [List.mem_cons, List.not_mem_nil, or_false] at he
   rcases he with rfl | rfl
   ·exact cutsL_01 _ _ _ (fullE_01 _)
   ·exact fullE_01 _)
theorem remove_rf {s s' : VS} (h : s'.shown = s.shown) (p : List UInt8) : Rf s (s.remove p) (s'.remove p) := by
 unfold VS.remove
 rw [there_sh h]
 split
 ·exact Rf.yes (SV.rds _ _) rfl
 ·exact (removes_rf (s := s.rdp p) (s' := s'.rdp p) h _).up (SV.rdp _ _)
theorem unlink_rf {s s' : VS} (h : s'.shown = s.shown) (p : List UInt8) : Rf s (s.unlink p) (s'.unlink p) := by
 unfold VS.unlink
 rw [there_sh h]
 split
 ·exact Rf.yes (SV.rds _ _) rfl
 ·exact (unlinks_rf (s := s.rdp p) (s' := s'.rdp p) _).up (SV.rdp _ _)
theorem link_rf {s s' : VS} (h : s'.shown = s.shown) (o p : List UInt8) : Rf s (s.link o p) (s'.link o p) := by
 have h2 : (s'.rdp o).shown = (s.rdp o).shown := h
 unfold VS.link
 rw [there_sh h, find_sh h2]
 split
 ·exact Rf.yes (SV.rds _ _) rfl
 split
 ·exact Rf.yes (SV.rds _ _) rfl
 split
 ·exact Rf.yes ((SV.rds _ _).trans (SV.rds _ _)) rfl
 split
 ·exact Rf.yes ((SV.rds _ _).trans (SV.rds _ _)) rfl
 split
 ·exact Rf.yes ((SV.rds _ _).trans (SV.rds _ _)) rfl
 ·exact Rf.no (fullE_01 _)
theorem clears_rf {s s' : VS} (h : s'.shown = s.shown) (a t : Sp) (o p : List UInt8) : Rf s (s.clears a t o p) (s'.clears a t o p) := by
 unfold VS.clears
 split
 ·exact Rf.yes (SV.refl _) rfl
 split
 ·exact Rf.no (.inr rfl)
 split
 ·exact removes_rf h t
 ·exact unlinks_rf t
theorem rename_rf {s s' : VS} (h : s'.shown = s.shown) (o p : List UInt8) : Rf s (s.rename o p) (s'.rename o p) := by
 have h2 : (s'.rdp o).shown = (s.rdp o).shown := h
 unfold VS.rename
 rw [there_sh h, find_sh h2]
 split
 ·exact Rf.yes (SV.rds _ _) rfl
 split
 ·exact Rf.yes ((SV.rds _ _).trans (SV.rds _ _)) rfl
 split
 ·exact Rf.yes ((SV.rds _ _).trans (SV.rds _ _)) rfl
 split
 ·exact Rf.no (.inr rfl)
 ·have hc := clears_rf (s := (s.rdp o).rdp p) (s' := (s'.rdp o).rdp p) h (s.there o false).1 ((s.rdp o).find p).1 o p
  unfold VS.renameAt
  split
  ·rename_i h0
   rcases hc.a with h01 | ha
   ·rcases h01 with h1 | h1
    ·exact Rf.no (.inl h1)
    ·exact absurd h1 h0
   ·rw [if_pos (by rw [ha]; exact h0)]
    exact hc.up ((SV.rdp _ _).trans (SV.rdp _ _))
  ·exact Rf.no (movesAt_01 _ _ _)
theorem fullB_01 (b : Bool) : F01 (fullB b) := by cases b <;> simp [fullB, F01]
theorem fload_sh {s s' : VS} (h : s'.shown = s.shown) (i : Int) : s'.fload i = s.fload i := by unfold VS.fload VS.load; rw [h]
theorem fwrite_rf {s s' : VS} (h : s'.shown = s.shown) (i o : Int) (b : List UInt8) : Rf s (s.fwrite i o b) (s'.fwrite i o b) := by
 unfold VS.fwrite
 rw [fload_sh h]
 split
 ·exact Rf.yes (SV.rd _ _) rfl
 split
 ·exact Rf.yes (SV.rd _ _) rfl
 split
 ·exact Rf.yes (SV.rd _ _) rfl
 split
 ·exact Rf.no (.inr rfl)
 ·exact Rf.no (fullB_01 _)
theorem ftrunc_rf {s s' : VS} (h : s'.shown = s.shown) (i z : Int) : Rf s (s.ftrunc i z) (s'.ftrunc i z) := by
 unfold VS.ftrunc
 rw [fload_sh h]
 split
 ·exact Rf.yes (SV.rd _ _) rfl
 split
 ·exact Rf.yes (SV.rd _ _) rfl
 split
 ·exact Rf.yes (SV.rd _ _) rfl
 split
 ·exact Rf.no (fullB_01 _)
 ·exact Rf.no (fullB_01 _)
theorem fread_sh {s s' : VS} (h : s'.shown = s.shown) (i o n : Int) : (s'.fread i o n).1 = (s.fread i o n).1 ∧ SV s (s.fread i o n).2 := by
 have hb : ∀ (t t' : VS), t'.shown = t.shown → ∀ o c, t'.bytesF i o c = t.bytesF i o c := fun t t' ht o c => by
  unfold VS.bytesF VS.block
  rw [ht]
 unfold VS.fread
 rw [fload_sh h]
 split
 ·exact ⟨rfl, SV.rd _ _⟩
 split
 ·exact ⟨rfl, SV.rd _ _⟩
 ·exact ⟨by rw [hb _ _ (show (s'.rd (keyH 73 i)).shown = (s.rd (keyH 73 i)).shown from h)], SV.rd _ _⟩
theorem dlist_sh {s s' : VS} (h : s'.shown = s.shown) (p : List UInt8) : (s'.dlist p).1 = (s.dlist p).1 ∧ SV s (s.dlist p).2 := by
 unfold VS.dlist
 rw [there_sh h, h]
 split
 ·exact ⟨rfl, SV.rds _ _⟩
 split
 ·exact ⟨rfl, SV.rds _ _⟩
 ·exact ⟨rfl, (SV.rds _ _).trans (SV.range _ _ _)⟩
theorem lead_sh {s s' : VS} (h : s'.shown = s.shown) (p : List UInt8) : s'.lead p = s.lead p := by unfold VS.lead; rw [find_sh h]
def looksB (k : Int) : Bool := decide (k ≥ 15) || (decide (k ≥ 6) && decide (k ≤ 8))
theorem sdo_rf {s s' : VS} (h : s'.shown = s.shown) (l : List Int) (o : Op20) (i : Int) :
  ((F01 (sdo s l o i).1.e ∧ looksB o.kind = false) ∨ SV s (sdo s l o i).2.1) ∧
  ((F01 (sdo s l o i).1.e ∧ looksB o.kind = false) ∨ o.kind = 6 ∨ o.kind = 7 ∨ (sdo s' l o i).1 = (sdo s l o i).1) := by
 have key : ∀ (q q' : Int × VS) , Rf s q q' → looksB o.kind = false → ((F01 (rs0 q.1).e ∧ looksB o.kind = false) ∨ SV s q.2) ∧ ((F01 (rs0 q.1).e ∧ looksB o.kind = false) ∨ o.kind = 6 ∨ o.kind = 7 ∨ rs0 q'.1 = rs0 q.1) := fun q q' r hl =>
  ⟨r.n.imp_left fun z => ⟨z, hl⟩, by
   rcases r.a with z | z
   ·exact .inl ⟨z, hl⟩
   ·exact .inr (.inr (.inr (by rw [z])))⟩
 have lk : ∀ k : Int, k = 4 ∨ k = 5 ∨ k = 9 ∨ k = 10 ∨ k = 11 ∨ k = 12 ∨ k = 13 ∨ k = 14 → looksB k = false := fun k hk => by
  rcases hk with rfl | rfl | rfl | rfl | rfl | rfl | rfl | rfl <;> rfl
 unfold sdo
 by_cases k4 : o.kind = 4
 ·simp only [if_pos k4]
  exact key _ _ (make_rf h _ _ _) (lk _ (by omega))
 simp only [if_neg k4]
 by_cases k5 : o.kind = 5
 ·simp only [if_pos k5]
  exact key _ _ (make_rf h _ _ _) (lk _ (by omega))
 simp only [if_neg k5]
 by_cases k6 : o.kind = 6
 ·simp only [if_pos k6]
  refine ⟨.inr ?_, .inr (.inl k6)⟩
  split
  ·exact SV.rds _ _
  split
  ·exact SV.rds _ _
  split
  ·exact SV.rds _ _
  ·exact SV.rds _ _
 simp only [if_neg k6]
 by_cases k7 : o.kind = 7
 ·simp only [if_pos k7]
  refine ⟨.inr ?_, .inr (.inr (.inl k7))⟩
  split <;> exact SV.refl _
 simp only [if_neg k7]
 by_cases k8 : o.kind = 8
 ·simp only [if_pos k8]
  obtain ⟨f1, f2⟩ := fread_sh h (heldI l o.h) o.from_ o.n
  split
  ·exact ⟨.inr (SV.refl _), .inr (.inr (.inr rfl))⟩
  ·exact ⟨.inr f2, .inr (.inr (.inr (by dsimp only; rw [f1])))⟩
 simp only [if_neg k8]
 by_cases k9 : o.kind = 9
 ·simp only [if_pos k9]
  have hf := fwrite_rf h (heldI l o.h) o.from_ o.b
  split
  ·exact ⟨.inr (SV.refl _), .inr (.inr (.inr rfl))⟩
  by_cases h0 : (s.fwrite (heldI l o.h) o.from_ o.b).1 ≠ 0
  ·simp only [if_pos h0]
   obtain ⟨a1, a2⟩ := key _ _ hf (lk _ (by omega))
   refine ⟨a1, ?_⟩
   rcases hf.a with z | z
   ·exact .inl ⟨z, lk _ (by omega)⟩
   ·rw [z, if_pos h0]
    exact .inr (.inr (.inr rfl))
  ·simp only [if_neg h0]
   exact ⟨.inl ⟨.inr rfl, lk _ (by omega)⟩, .inl ⟨.inr rfl, lk _ (by omega)⟩⟩
 simp only [if_neg k9]
 by_cases k10 : o.kind = 10
 ·simp only [if_pos k10]
  split
  ·exact ⟨.inr (SV.refl _), .inr (.inr (.inr rfl))⟩
  ·exact key _ _ (ftrunc_rf h _ _) (lk _ (by omega))
 simp only [if_neg k10]
 by_cases k11 : o.kind = 11
 ·simp only [if_pos k11]
  exact key _ _ (rename_rf h _ _) (lk _ (by omega))
 simp only [if_neg k11]
 by_cases k12 : o.kind = 12
 ·simp only [if_pos k12]
  exact key _ _ (link_rf h _ _) (lk _ (by omega))
 simp only [if_neg k12]
 by_cases k13 : o.kind = 13
 ·simp only [if_pos k13]
  exact key _ _ (unlink_rf h _) (lk _ (by omega))
 simp only [if_neg k13]
 by_cases k14 : o.kind = 14
 ·simp only [if_pos k14]
  exact key _ _ (remove_rf h _) (lk _ (by omega))
 simp only [if_neg k14]
 by_cases k15 : o.kind = 15
 ·simp only [if_pos k15]
  obtain ⟨f1, f2⟩ := dlist_sh h o.path
  exact ⟨.inr f2, .inr (.inr (.inr (by rw [f1])))⟩
 simp only [if_neg k15]
 by_cases k16 : o.kind = 16
 ·simp only [if_pos k16]
  exact ⟨.inr (SV.rds _ _), .inr (.inr (.inr (by rw [lead_sh h])))⟩
 simp only [if_neg k16]
 exact ⟨.inr (SV.refl _), .inr (.inr (.inr trivial))⟩
theorem fread_len (s : VS) (i o n : Int) : (s.fread i o n).1.2 = 0 ∨ (s.fread i o n).1.1 = [] := by
 unfold VS.fread
 repeat' split
 all_goals first | exact .inl rfl | exact .inr rfl
theorem heldI_lt {l : List Int} {h : Int} (q : heldI l h ≠ 0) : 0 ≤ h ∧ h < 16 := by
 unfold heldI at q
 split at q
 ·exact absurd rfl q
 ·omega
theorem freeH_lt : ∀ (l : List Int) (i : Nat), freeH l i < 0 ∨ ((i : Int) ≤ freeH l i ∧ freeH l i < ((i + l.length : Nat) : Int))
 | [], i => .inl (by show (-1 : Int) < 0; decide)
 | x :: r, i => by
  rw [freeH_cons]
  split
  ·right; rw [List.length_cons]; omega
  ·rcases freeH_lt r (i + 1) with h | h
   ·exact .inl h
   ·right
    rw [List.length_cons]
    omega
set_option maxHeartbeats 16000000 in
theorem shut_d {s : VS} {m : Nat} (_ : VJ s m) (_ : m ≤ 90000) {l : List Int} (hl : l.length = 16) (hlu : ∀ x ∈ l, U32 x) (o : Op20) (hk : o.kind = 7) (i : Int) : DoOk 73 o anyD s l i := by
 have hu := heldI_u hlu o.h
 have c0 := held_spec s l hl i o.h
 have cf := failed_spec 16
 unfold DoOk sdo
 rw [if_neg (show ¬ o.kind = 4 by omega), if_neg (show ¬ o.kind = 5 by omega), if_neg (show ¬ o.kind = 6 by omega), if_pos hk]
 by_cases h0 : heldI l o.h = 0
 ·rw [if_pos h0]
  rw [h0] at c0
  obtain ⟨a0, a1, a2, a3, a4, a5, a6, a7, a8, a9, a10, a11, a12, a13, a14, a15, rfl⟩ := len16 hl
  refine ⟨.nils, .nils, .nils, .nils, ?_⟩
  refine con_of Tryz.func73 rfl (by kernel_rfl) rfl fun F w0 β0 => ?_
  refine K_tell rfl ?_
  refine go ?_
  refine K_op rfl rfl (opr_callS [.o 0, .o 1, .o 2] rfl rfl (c0) rfl rfl rfl ⟨⟨rfl, rfl⟩, ⟨rfl, rfl⟩, ⟨rfl, rfl⟩, trivial⟩ rfl rfl rfl rfl) rfl ?_
  refine go ?_
  refine K_op rfl rfl (opr_callP rfl rfl (cf) rfl rfl rfl rfl) rfl ?_
  refine go ?_
  exact J_done hT rfl rfl rfl
 rw [if_neg h0]
 obtain ⟨b0, b1⟩ := heldI_lt h0
 generalize heldI l o.h = z at c0 h0
 obtain ⟨a0, a1, a2, a3, a4, a5, a6, a7, a8, a9, a10, a11, a12, a13, a14, a15, rfl⟩ := len16 hl
 obtain ⟨k0, p0, t0, z0, f0, n0, d0⟩ := o
 dsimp only at b0 b1 c0 ⊢
 refine ⟨.nils, .nils, .nils, .nils, ?_⟩
 rcases cell16 b0 b1 with rfl | rfl | rfl | rfl | rfl | rfl | rfl | rfl | rfl | rfl | rfl | rfl | rfl | rfl | rfl | rfl
 ·skip
  refine con_of Tryz.func73 rfl (by kernel_rfl) rfl fun F w0 β0 => ?_
  refine K_tell rfl ?_
  refine go ?_
  refine K_op rfl rfl (opr_callS [.o 0, .o 1, .o 2] rfl rfl (c0) rfl rfl rfl ⟨⟨rfl, rfl⟩, ⟨rfl, rfl⟩, ⟨rfl, rfl⟩, trivial⟩ rfl rfl rfl rfl) rfl ?_
  refine go ?_
  refine K_condF rfl (by simp [h0]) ?_
  refine go ?_
  refine J_drawH1 6 (dH s [0, a1, a2, a3, a4, a5, a6, a7, a8, a9, a10, a11, a12, a13, a14, a15] i) (by kernel_rfl) (by kernel_rfl) ?_
  refine gdJ ?_
  refine go ?_
  exact J_done hT rfl rfl rfl
 ·skip
  refine con_of Tryz.func73 rfl (by kernel_rfl) rfl fun F w0 β0 => ?_
  refine K_tell rfl ?_
  refine go ?_
  refine K_op rfl rfl (opr_callS [.o 0, .o 1, .o 2] rfl rfl (c0) rfl rfl rfl ⟨⟨rfl, rfl⟩, ⟨rfl, rfl⟩, ⟨rfl, rfl⟩, trivial⟩ rfl rfl rfl rfl) rfl ?_
  refine go ?_
  refine K_condF rfl (by simp [h0]) ?_
  refine go ?_
  refine J_drawH1 6 (dH s [a0, 0, a2, a3, a4, a5, a6, a7, a8, a9, a10, a11, a12, a13, a14, a15] i) (by kernel_rfl) (by kernel_rfl) ?_
  refine gdJ ?_
  refine go ?_
  exact J_done hT rfl rfl rfl
 ·skip
  refine con_of Tryz.func73 rfl (by kernel_rfl) rfl fun F w0 β0 => ?_
  refine K_tell rfl ?_
  refine go ?_
  refine K_op rfl rfl (opr_callS [.o 0, .o 1, .o 2] rfl rfl (c0) rfl rfl rfl ⟨⟨rfl, rfl⟩, ⟨rfl, rfl⟩, ⟨rfl, rfl⟩, trivial⟩ rfl rfl rfl rfl) rfl ?_
  refine go ?_
  refine K_condF rfl (by simp [h0]) ?_
  refine go ?_
  refine J_drawH1 6 (dH s [a0, a1, 0, a3, a4, a5, a6, a7, a8, a9, a10, a11, a12, a13, a14, a15] i) (by kernel_rfl) (by kernel_rfl) ?_
  refine gdJ ?_
  refine go ?_
  exact J_done hT rfl rfl rfl
 ·skip
  refine con_of Tryz.func73 rfl (by kernel_rfl) rfl fun F w0 β0 => ?_
  refine K_tell rfl ?_
  refine go ?_
  refine K_op rfl rfl (opr_callS [.o 0, .o 1, .o 2] rfl rfl (c0) rfl rfl rfl ⟨⟨rfl, rfl⟩, ⟨rfl, rfl⟩, ⟨rfl, rfl⟩, trivial⟩ rfl rfl rfl rfl) rfl ?_
  refine go ?_
  refine K_condF rfl (by simp [h0]) ?_
  refine go ?_
  refine J_drawH1 6 (dH s [a0, a1, a2, 0, a4, a5, a6, a7, a8, a9, a10, a11, a12, a13, a14, a15] i) (by kernel_rfl) (by kernel_rfl) ?_
  refine gdJ ?_
  refine go ?_
  exact J_done hT rfl rfl rfl
 ·skip
  refine con_of Tryz.func73 rfl (by kernel_rfl) rfl fun F w0 β0 => ?_
  refine K_tell rfl ?_
  refine go ?_
  refine K_op rfl rfl (opr_callS [.o 0, .o 1, .o 2] rfl rfl (c0) rfl rfl rfl ⟨⟨rfl, rfl⟩, ⟨rfl, rfl⟩, ⟨rfl, rfl⟩, trivial⟩ rfl rfl rfl rfl) rfl ?_
  refine go ?_
  refine K_condF rfl (by simp [h0]) ?_
  refine go ?_
  refine J_drawH1 6 (dH s [a0, a1, a2, a3, 0, a5, a6, a7, a8, a9, a10, a11, a12, a13, a14, a15] i) (by kernel_rfl) (by kernel_rfl) ?_
  refine gdJ ?_
  refine go ?_
  exact J_done hT rfl rfl rfl
 ·skip
  refine con_of Tryz.func73 rfl (by kernel_rfl) rfl fun F w0 β0 => ?_
  refine K_tell rfl ?_
  refine go ?_
  refine K_op rfl rfl (opr_callS [.o 0, .o 1, .o 2] rfl rfl (c0) rfl rfl rfl ⟨⟨rfl, rfl⟩, ⟨rfl, rfl⟩, ⟨rfl, rfl⟩, trivial⟩ rfl rfl rfl rfl) rfl ?_
  refine go ?_
  refine K_condF rfl (by simp [h0]) ?_
  refine go ?_
  refine J_drawH1 6 (dH s [a0, a1, a2, a3, a4, 0, a6, a7, a8, a9, a10, a11, a12, a13, a14, a15] i) (by kernel_rfl) (by kernel_rfl) ?_
  refine gdJ ?_
  refine go ?_
  exact J_done hT rfl rfl rfl
 ·skip
  refine con_of Tryz.func73 rfl (by kernel_rfl) rfl fun F w0 β0 => ?_
  refine K_tell rfl ?_
  refine go ?_
  refine K_op rfl rfl (opr_callS [.o 0, .o 1, .o 2] rfl rfl (c0) rfl rfl rfl ⟨⟨rfl, rfl⟩, ⟨rfl, rfl⟩, ⟨rfl, rfl⟩, trivial⟩ rfl rfl rfl rfl) rfl ?_
  refine go ?_
  refine K_condF rfl (by simp [h0]) ?_
  refine go ?_
  refine J_drawH1 6 (dH s [a0, a1, a2, a3, a4, a5, 0, a7, a8, a9, a10, a11, a12, a13, a14, a15] i) (by kernel_rfl) (by kernel_rfl) ?_
  refine gdJ ?_
  refine go ?_
  exact J_done hT rfl rfl rfl
 ·skip
  refine con_of Tryz.func73 rfl (by kernel_rfl) rfl fun F w0 β0 => ?_
  refine K_tell rfl ?_
  refine go ?_
  refine K_op rfl rfl (opr_callS [.o 0, .o 1, .o 2] rfl rfl (c0) rfl rfl rfl ⟨⟨rfl, rfl⟩, ⟨rfl, rfl⟩, ⟨rfl, rfl⟩, trivial⟩ rfl rfl rfl rfl) rfl ?_
  refine go ?_
  refine K_condF rfl (by simp [h0]) ?_
  refine go ?_
  refine J_drawH1 6 (dH s [a0, a1, a2, a3, a4, a5, a6, 0, a8, a9, a10, a11, a12, a13, a14, a15] i) (by kernel_rfl) (by kernel_rfl) ?_
  refine gdJ ?_
  refine go ?_
  exact J_done hT rfl rfl rfl
 ·skip
  refine con_of Tryz.func73 rfl (by kernel_rfl) rfl fun F w0 β0 => ?_
  refine K_tell rfl ?_
  refine go ?_
  refine K_op rfl rfl (opr_callS [.o 0, .o 1, .o 2] rfl rfl (c0) rfl rfl rfl ⟨⟨rfl, rfl⟩, ⟨rfl, rfl⟩, ⟨rfl, rfl⟩, trivial⟩ rfl rfl rfl rfl) rfl ?_
  refine go ?_
  refine K_condF rfl (by simp [h0]) ?_
  refine go ?_
  refine J_drawH1 6 (dH s [a0, a1, a2, a3, a4, a5, a6, a7, 0, a9, a10, a11, a12, a13, a14, a15] i) (by kernel_rfl) (by kernel_rfl) ?_
  refine gdJ ?_
  refine go ?_
  exact J_done hT rfl rfl rfl
 ·skip
  refine con_of Tryz.func73 rfl (by kernel_rfl) rfl fun F w0 β0 => ?_
  refine K_tell rfl ?_
  refine go ?_
  refine K_op rfl rfl (opr_callS [.o 0, .o 1, .o 2] rfl rfl (c0) rfl rfl rfl ⟨⟨rfl, rfl⟩, ⟨rfl, rfl⟩, ⟨rfl, rfl⟩, trivial⟩ rfl rfl rfl rfl) rfl ?_
  refine go ?_
  refine K_condF rfl (by simp [h0]) ?_
  refine go ?_
  refine J_drawH1 6 (dH s [a0, a1, a2, a3, a4, a5, a6, a7, a8, 0, a10, a11, a12, a13, a14, a15] i) (by kernel_rfl) (by kernel_rfl) ?_
  refine gdJ ?_
  refine go ?_
  exact J_done hT rfl rfl rfl
 ·skip
  refine con_of Tryz.func73 rfl (by kernel_rfl) rfl fun F w0 β0 => ?_
  refine K_tell rfl ?_
  refine go ?_
  refine K_op rfl rfl (opr_callS [.o 0, .o 1, .o 2] rfl rfl (c0) rfl rfl rfl ⟨⟨rfl, rfl⟩, ⟨rfl, rfl⟩, ⟨rfl, rfl⟩, trivial⟩ rfl rfl rfl rfl) rfl ?_
  refine go ?_
  refine K_condF rfl (by simp [h0]) ?_
  refine go ?_
  refine J_drawH1 6 (dH s [a0, a1, a2, a3, a4, a5, a6, a7, a8, a9, 0, a11, a12, a13, a14, a15] i) (by kernel_rfl) (by kernel_rfl) ?_
  refine gdJ ?_
  refine go ?_
  exact J_done hT rfl rfl rfl
 ·skip
  refine con_of Tryz.func73 rfl (by kernel_rfl) rfl fun F w0 β0 => ?_
  refine K_tell rfl ?_
  refine go ?_
  refine K_op rfl rfl (opr_callS [.o 0, .o 1, .o 2] rfl rfl (c0) rfl rfl rfl ⟨⟨rfl, rfl⟩, ⟨rfl, rfl⟩, ⟨rfl, rfl⟩, trivial⟩ rfl rfl rfl rfl) rfl ?_
  refine go ?_
  refine K_condF rfl (by simp [h0]) ?_
  refine go ?_
  refine J_drawH1 6 (dH s [a0, a1, a2, a3, a4, a5, a6, a7, a8, a9, a10, 0, a12, a13, a14, a15] i) (by kernel_rfl) (by kernel_rfl) ?_
  refine gdJ ?_
  refine go ?_
  exact J_done hT rfl rfl rfl
 ·skip
  refine con_of Tryz.func73 rfl (by kernel_rfl) rfl fun F w0 β0 => ?_
  refine K_tell rfl ?_
  refine go ?_
  refine K_op rfl rfl (opr_callS [.o 0, .o 1, .o 2] rfl rfl (c0) rfl rfl rfl ⟨⟨rfl, rfl⟩, ⟨rfl, rfl⟩, ⟨rfl, rfl⟩, trivial⟩ rfl rfl rfl rfl) rfl ?_
  refine go ?_
  refine K_condF rfl (by simp [h0]) ?_
  refine go ?_
  refine J_drawH1 6 (dH s [a0, a1, a2, a3, a4, a5, a6, a7, a8, a9, a10, a11, 0, a13, a14, a15] i) (by kernel_rfl) (by kernel_rfl) ?_
  refine gdJ ?_
  refine go ?_
  exact J_done hT rfl rfl rfl
 ·skip
  refine con_of Tryz.func73 rfl (by kernel_rfl) rfl fun F w0 β0 => ?_
  refine K_tell rfl ?_
  refine go ?_
  refine K_op rfl rfl (opr_callS [.o 0, .o 1, .o 2] rfl rfl (c0) rfl rfl rfl ⟨⟨rfl, rfl⟩, ⟨rfl, rfl⟩, ⟨rfl, rfl⟩, trivial⟩ rfl rfl rfl rfl) rfl ?_
  refine go ?_
  refine K_condF rfl (by simp [h0]) ?_
  refine go ?_
  refine J_drawH1 6 (dH s [a0, a1, a2, a3, a4, a5, a6, a7, a8, a9, a10, a11, a12, 0, a14, a15] i) (by kernel_rfl) (by kernel_rfl) ?_
  refine gdJ ?_
  refine go ?_
  exact J_done hT rfl rfl rfl
 ·skip
  refine con_of Tryz.func73 rfl (by kernel_rfl) rfl fun F w0 β0 => ?_
  refine K_tell rfl ?_
  refine go ?_
  refine K_op rfl rfl (opr_callS [.o 0, .o 1, .o 2] rfl rfl (c0) rfl rfl rfl ⟨⟨rfl, rfl⟩, ⟨rfl, rfl⟩, ⟨rfl, rfl⟩, trivial⟩ rfl rfl rfl rfl) rfl ?_
  refine go ?_
  refine K_condF rfl (by simp [h0]) ?_
  refine go ?_
  refine J_drawH1 6 (dH s [a0, a1, a2, a3, a4, a5, a6, a7, a8, a9, a10, a11, a12, a13, 0, a15] i) (by kernel_rfl) (by kernel_rfl) ?_
  refine gdJ ?_
  refine go ?_
  exact J_done hT rfl rfl rfl
 ·skip
  refine con_of Tryz.func73 rfl (by kernel_rfl) rfl fun F w0 β0 => ?_
  refine K_tell rfl ?_
  refine go ?_
  refine K_op rfl rfl (opr_callS [.o 0, .o 1, .o 2] rfl rfl (c0) rfl rfl rfl ⟨⟨rfl, rfl⟩, ⟨rfl, rfl⟩, ⟨rfl, rfl⟩, trivial⟩ rfl rfl rfl rfl) rfl ?_
  refine go ?_
  refine K_condF rfl (by simp [h0]) ?_
  refine go ?_
  refine J_drawH1 6 (dH s [a0, a1, a2, a3, a4, a5, a6, a7, a8, a9, a10, a11, a12, a13, a14, 0] i) (by kernel_rfl) (by kernel_rfl) ?_
  refine gdJ ?_
  refine go ?_
  exact J_done hT rfl rfl rfl
set_option maxHeartbeats 16000000 in
theorem read_d {s : VS} {m : Nat} (h : VJ s m) (hm : m ≤ 90000) {l : List Int} (hl : l.length = 16) (hlu : ∀ x ∈ l, U32 x) (o : Op20) (hk : o.kind = 8) (i : Int) (hf : -9223372036854775808 ≤ o.from_ ∧ o.from_ ≤ 9223372036854775807) (hn : -9223372036854775808 ≤ o.n ∧ o.n ≤ 9223372036854775807) : DoOk 74 o anyD s l i := by
 have hu := heldI_u hlu o.h
 have c0 := held_spec s l hl i o.h
 have cf := failed_spec 16
 unfold DoOk sdo
 rw [if_neg (show ¬ o.kind = 4 by omega), if_neg (show ¬ o.kind = 5 by omega), if_neg (show ¬ o.kind = 6 by omega), if_neg (show ¬ o.kind = 7 by omega), if_pos hk]
 by_cases h0 : heldI l o.h = 0
 ·rw [if_pos h0]
  rw [h0] at c0
  obtain ⟨a0, a1, a2, a3, a4, a5, a6, a7, a8, a9, a10, a11, a12, a13, a14, a15, rfl⟩ := len16 hl
  refine ⟨.nils, .nils, .nils, .nils, ?_⟩
  refine con_of Tryz.func74 rfl (by kernel_rfl) rfl fun F w0 β0 => ?_
  refine K_tell rfl ?_
  refine go ?_
  refine K_op rfl rfl (opr_callS [.o 0, .o 1, .o 2] rfl rfl (c0) rfl rfl rfl ⟨⟨rfl, rfl⟩, ⟨rfl, rfl⟩, ⟨rfl, rfl⟩, trivial⟩ rfl rfl rfl rfl) rfl ?_
  refine go ?_
  refine K_op rfl rfl (opr_callP rfl rfl (cf) rfl rfl rfl rfl) rfl ?_
  refine go ?_
  exact J_done hT rfl rfl rfl
 rw [if_neg h0]
 have c1 := fread_spec h (by omega) (heldI l o.h) hu o.from_ o.n hf hn
 have hfl := fread_len s (heldI l o.h) o.from_ o.n
 generalize s.fread (heldI l o.h) o.from_ o.n = r at c1 hfl
 generalize heldI l o.h = z at c0 h0 c1
 obtain ⟨⟨b, e⟩, s2⟩ := r
 dsimp only at c1 hfl ⊢
 obtain ⟨a0, a1, a2, a3, a4, a5, a6, a7, a8, a9, a10, a11, a12, a13, a14, a15, rfl⟩ := len16 hl
 unfold bytA at c1
 dsimp only at c1
 by_cases he : e = 0
 ·rw [if_pos he] at c1
  refine ⟨.ps (bv b), .nils, .ps b, .nils, ?_⟩
  refine con_of Tryz.func74 rfl (by kernel_rfl) rfl fun F w0 β0 => ?_
  refine K_tell rfl ?_
  refine go ?_
  refine K_op rfl rfl (opr_callS [.o 0, .o 1, .o 2] rfl rfl (c0) rfl rfl rfl ⟨⟨rfl, rfl⟩, ⟨rfl, rfl⟩, ⟨rfl, rfl⟩, trivial⟩ rfl rfl rfl rfl) rfl ?_
  refine go ?_
  refine K_condF rfl (by simp [h0]) ?_
  refine go ?_
  refine J_drawH1 9 (dH s2 [a0, a1, a2, a3, a4, a5, a6, a7, a8, a9, a10, a11, a12, a13, a14, a15] i) (by kernel_rfl) (by kernel_rfl) ?_
  refine gdJ ?_
  refine T_stH rfl rfl rfl rfl rfl rfl (opr_callS [.o 1, .o 2] rfl rfl (c1) rfl rfl rfl ⟨⟨rfl, rfl⟩, ⟨rfl, rfl⟩, trivial⟩ rfl rfl rfl rfl) rfl ?_
  refine gdJ ?_
  refine go ?_
  rw [bv_length]
  exact J_done hT rfl rfl rfl
 ·rw [if_neg he] at c1
  obtain rfl : b = [] := hfl.resolve_left he
  refine ⟨.nils, .nils, .nils, .nils, ?_⟩
  refine con_of Tryz.func74 rfl (by kernel_rfl) rfl fun F w0 β0 => ?_
  refine K_tell rfl ?_
  refine go ?_
  refine K_op rfl rfl (opr_callS [.o 0, .o 1, .o 2] rfl rfl (c0) rfl rfl rfl ⟨⟨rfl, rfl⟩, ⟨rfl, rfl⟩, ⟨rfl, rfl⟩, trivial⟩ rfl rfl rfl rfl) rfl ?_
  refine go ?_
  refine K_condF rfl (by simp [h0]) ?_
  refine go ?_
  refine J_drawH1 9 (dH s2 [a0, a1, a2, a3, a4, a5, a6, a7, a8, a9, a10, a11, a12, a13, a14, a15] i) (by kernel_rfl) (by kernel_rfl) ?_
  refine gdJ ?_
  refine T_stH rfl rfl rfl rfl rfl rfl (opr_callS [.o 1, .o 2] rfl rfl (c1) rfl rfl rfl ⟨⟨rfl, rfl⟩, ⟨rfl, rfl⟩, trivial⟩ rfl rfl rfl rfl) rfl ?_
  refine gdJ ?_
  refine go ?_
  exact J_done hT rfl rfl rfl
set_option maxHeartbeats 16000000 in
theorem write_d {s : VS} {m : Nat} (h : VJ s m) (hm : m ≤ 90000) {l : List Int} (hl : l.length = 16) (hlu : ∀ x ∈ l, U32 x) (o : Op20) (hk : o.kind = 9) (i : Int) (hf : -9223372036854775808 ≤ o.from_ ∧ o.from_ ≤ 9223372036854775807) (hb : o.b.length ≤ 140737488355328) : DoOk 75 o (.p (.ps (bv o.b))) s l i := by
 have hu := heldI_u hlu o.h
 have c0 := held_spec s l hl i o.h
 have cf := failed_spec 16
 unfold DoOk sdo
 rw [if_neg (show ¬ o.kind = 4 by omega), if_neg (show ¬ o.kind = 5 by omega), if_neg (show ¬ o.kind = 6 by omega), if_neg (show ¬ o.kind = 7 by omega), if_neg (show ¬ o.kind = 8 by omega), if_pos hk]
 by_cases h0 : heldI l o.h = 0
 ·rw [if_pos h0]
  rw [h0] at c0
  obtain ⟨a0, a1, a2, a3, a4, a5, a6, a7, a8, a9, a10, a11, a12, a13, a14, a15, rfl⟩ := len16 hl
  refine ⟨.nils, .nils, .nils, .nils, ?_⟩
  refine con_of Tryz.func75 rfl (by kernel_rfl) rfl fun F w0 β0 => ?_
  refine K_tell rfl ?_
  refine go ?_
  refine K_op rfl rfl (opr_callS [.o 0, .o 1, .o 2] rfl rfl (c0) rfl rfl rfl ⟨⟨rfl, rfl⟩, ⟨rfl, rfl⟩, ⟨rfl, rfl⟩, trivial⟩ rfl rfl rfl rfl) rfl ?_
  refine go ?_
  refine K_op rfl rfl (opr_callP rfl rfl (cf) rfl rfl rfl rfl) rfl ?_
  refine go ?_
  exact J_done hT rfl rfl rfl
 rw [if_neg h0]
 have c1 := fwrite_ps h (by omega) (heldI l o.h) hu o.from_ hf o.b hb
 generalize s.fwrite (heldI l o.h) o.from_ o.b = r at c1
 generalize heldI l o.h = z at c0 h0 c1
 obtain ⟨e, s2⟩ := r
 dsimp only at c1 ⊢
 have c2 := failed_spec e
 have hbl := bv_length o.b
 obtain ⟨a0, a1, a2, a3, a4, a5, a6, a7, a8, a9, a10, a11, a12, a13, a14, a15, rfl⟩ := len16 hl
 refine ⟨.nils, .nils, (by split <;> exact .nils), (by split <;> exact .nils), ?_⟩
 by_cases he : e ≠ 0
 ·rw [if_pos he]
  refine con_of Tryz.func75 rfl (by kernel_rfl) rfl fun F w0 β0 => ?_
  refine K_tell rfl ?_
  refine go ?_
  refine K_op rfl rfl (opr_callS [.o 0, .o 1, .o 2] rfl rfl (c0) rfl rfl rfl ⟨⟨rfl, rfl⟩, ⟨rfl, rfl⟩, ⟨rfl, rfl⟩, trivial⟩ rfl rfl rfl rfl) rfl ?_
  refine go ?_
  refine K_condF rfl (by simp [h0]) ?_
  refine go ?_
  refine J_drawH1 9 (dH s2 [a0, a1, a2, a3, a4, a5, a6, a7, a8, a9, a10, a11, a12, a13, a14, a15] i) (by kernel_rfl) (by kernel_rfl) ?_
  refine gdJ ?_
  refine T_stH rfl rfl rfl rfl rfl rfl (opr_callS [.o 1, .o 2] rfl rfl (c1) rfl rfl rfl ⟨⟨rfl, rfl⟩, ⟨rfl, rfl⟩, trivial⟩ rfl rfl rfl rfl) rfl ?_
  refine gdJ ?_
  refine go ?_
  refine K_condT rfl (by simp [he]) ?_
  refine go ?_
  refine K_op rfl rfl (opr_callP rfl rfl (c2) rfl rfl rfl rfl) rfl ?_
  refine go ?_
  exact J_done hT rfl rfl rfl
 ·rw [if_neg he]
  obtain rfl : e = 0 := by simpa using he
  refine con_of Tryz.func75 rfl (by kernel_rfl) rfl fun F w0 β0 => ?_
  refine K_tell rfl ?_
  refine go ?_
  refine K_op rfl rfl (opr_callS [.o 0, .o 1, .o 2] rfl rfl (c0) rfl rfl rfl ⟨⟨rfl, rfl⟩, ⟨rfl, rfl⟩, ⟨rfl, rfl⟩, trivial⟩ rfl rfl rfl rfl) rfl ?_
  refine go ?_
  refine K_condF rfl (by simp [h0]) ?_
  refine go ?_
  refine J_drawH1 9 (dH s2 [a0, a1, a2, a3, a4, a5, a6, a7, a8, a9, a10, a11, a12, a13, a14, a15] i) (by kernel_rfl) (by kernel_rfl) ?_
  refine gdJ ?_
  refine T_stH rfl rfl rfl rfl rfl rfl (opr_callS [.o 1, .o 2] rfl rfl (c1) rfl rfl rfl ⟨⟨rfl, rfl⟩, ⟨rfl, rfl⟩, trivial⟩ rfl rfl rfl rfl) rfl ?_
  refine gdJ ?_
  refine go ?_
  rw [hbl]
  exact J_done hT rfl rfl rfl
set_option maxHeartbeats 16000000 in
theorem trunc_d {s : VS} {m : Nat} (h : VJ s m) (hm : m ≤ 90000) {l : List Int} (hl : l.length = 16) (hlu : ∀ x ∈ l, U32 x) (o : Op20) (hk : o.kind = 10) (i : Int) (hn : -9223372036854775808 ≤ o.n ∧ o.n ≤ 9223372036854775807) : DoOk 76 o anyD s l i := by
 have hu := heldI_u hlu o.h
 have c0 := held_spec s l hl i o.h
 have cf := failed_spec 16
 unfold DoOk sdo
 rw [if_neg (show ¬ o.kind = 4 by omega), if_neg (show ¬ o.kind = 5 by omega), if_neg (show ¬ o.kind = 6 by omega), if_neg (show ¬ o.kind = 7 by omega), if_neg (show ¬ o.kind = 8 by omega), if_neg (show ¬ o.kind = 9 by omega), if_pos hk]
 by_cases h0 : heldI l o.h = 0
 ·rw [if_pos h0]
  rw [h0] at c0
  obtain ⟨a0, a1, a2, a3, a4, a5, a6, a7, a8, a9, a10, a11, a12, a13, a14, a15, rfl⟩ := len16 hl
  refine ⟨.nils, .nils, .nils, .nils, ?_⟩
  refine con_of Tryz.func76 rfl (by kernel_rfl) rfl fun F w0 β0 => ?_
  refine K_tell rfl ?_
  refine go ?_
  refine K_op rfl rfl (opr_callS [.o 0, .o 1, .o 2] rfl rfl (c0) rfl rfl rfl ⟨⟨rfl, rfl⟩, ⟨rfl, rfl⟩, ⟨rfl, rfl⟩, trivial⟩ rfl rfl rfl rfl) rfl ?_
  refine go ?_
  refine K_op rfl rfl (opr_callP rfl rfl (cf) rfl rfl rfl rfl) rfl ?_
  refine go ?_
  exact J_done hT rfl rfl rfl
 rw [if_neg h0]
 have c1 := ftrunc_spec h (by omega) (heldI l o.h) hu o.n hn
 generalize s.ftrunc (heldI l o.h) o.n = r at c1
 generalize heldI l o.h = z at c0 h0 c1
 obtain ⟨e, s2⟩ := r
 dsimp only at c1 ⊢
 have c2 := failed_spec e
 obtain ⟨a0, a1, a2, a3, a4, a5, a6, a7, a8, a9, a10, a11, a12, a13, a14, a15, rfl⟩ := len16 hl
 refine ⟨.nils, .nils, .nils, .nils, ?_⟩
 refine con_of Tryz.func76 rfl (by kernel_rfl) rfl fun F w0 β0 => ?_
 refine K_tell rfl ?_
 refine go ?_
 refine K_op rfl rfl (opr_callS [.o 0, .o 1, .o 2] rfl rfl (c0) rfl rfl rfl ⟨⟨rfl, rfl⟩, ⟨rfl, rfl⟩, ⟨rfl, rfl⟩, trivial⟩ rfl rfl rfl rfl) rfl ?_
 refine go ?_
 refine K_condF rfl (by simp [h0]) ?_
 refine go ?_
 refine J_drawH2 7 9 (dH s2 [a0, a1, a2, a3, a4, a5, a6, a7, a8, a9, a10, a11, a12, a13, a14, a15] i) (by kernel_rfl) (by kernel_rfl) ?_
 apply Exists.intro
 refine gdH ?_
 refine T_stH rfl rfl rfl rfl rfl rfl (opr_callS [.o 1, .o 2] rfl rfl (c1) rfl rfl rfl ⟨⟨rfl, rfl⟩, ⟨rfl, rfl⟩, trivial⟩ rfl rfl rfl rfl) rfl ?_
 refine gdH ?_
 refine T_opH rfl rfl rfl rfl rfl rfl (opr_call0P rfl rfl c2 rfl rfl rfl) rfl ?_
 refine gdH ?_
 refine go ?_
 exact J_done hT rfl rfl rfl
set_option maxHeartbeats 32000000 in
theorem open_d {s : VS} {m : Nat} (h : VJ s m) (hm : m ≤ 90000) {l : List Int} (hl : l.length = 16) (o : Op20) (hk : o.kind = 6) (i : Int) : DoOk 72 o anyD s l i := by
 have c1 := wlead_spec h (by omega) o.path
 have ci := idx20_spec l (by omega)
 have hfr := freeH_lt l 0
 rw [hl] at hfr
 unfold DoOk sdo
 rw [if_neg (show ¬ o.kind = 4 by omega), if_neg (show ¬ o.kind = 5 by omega), if_pos hk]
 generalize s.lead o.path = r at c1
 generalize s.rdp o.path = s2 at c1
 generalize freeH l 0 = z at ci hfr
 obtain ⟨⟨j, x⟩, e⟩ := r
 dsimp only at c1 ⊢
 have ce := failed_spec e
 have c13 := failed_spec 13
 have c20 := failed_spec 20
 obtain ⟨a0, a1, a2, a3, a4, a5, a6, a7, a8, a9, a10, a11, a12, a13, a14, a15, rfl⟩ := len16 hl
 have start : ∀ {F : Nat → Prop} {w0 : World} {β0 : Hd → Nat} {Q : Exit → Act → World → Prop} {n : Act → World → Prop} {y : Code}, True := fun {_ _ _ _ _ _} => trivial
 clear start
 by_cases he : e ≠ 0
 ·rw [if_pos he]
  refine ⟨.nils, .nils, .nils, .nils, ?_⟩
  refine con_of Tryz.func72 rfl (by kernel_rfl) rfl fun F w0 β0 => ?_
  refine K_tell rfl ?_
  refine go ?_
  refine J_drawFl2 11 6 13 (dH s2 [a0, a1, a2, a3, a4, a5, a6, a7, a8, a9, a10, a11, a12, a13, a14, a15] i) [opB o anyD, resB0, ndB (0, 0, 0, 0)] [opB o anyD, resB0, ndB x] (by kernel_rfl) (by kernel_rfl) rfl ?_
  refine gdG ?_
  refine G_stB rfl rfl rfl rfl rfl rfl rfl rfl rfl (opr_callS [.o 1, .o 2] rfl rfl c1 rfl rfl rfl ⟨⟨rfl, rfl⟩, ⟨rfl, rfl⟩, trivial⟩ rfl rfl rfl rfl) (opr_callS [.o 1, .o 2] rfl rfl c1 rfl rfl rfl ⟨⟨rfl, rfl⟩, ⟨rfl, rfl⟩, trivial⟩ rfl rfl rfl rfl) rfl ?_
  refine gdG ?_
  refine go ?_
  refine J_boxCall (rows := [a0, a1, a2, a3, a4, a5, a6, a7, a8, a9, a10, a11, a12, a13, a14, a15].map u32V) hT rfl rfl rfl rfl rfl rfl rfl rfl rfl rfl rfl rfl rfl rfl (by decide) (fun r hr => by obtain ⟨_, _, rfl⟩ := List.mem_map.1 hr; rfl) rfl rfl ci ?_
  refine go ?_
  refine K_condT rfl (by simp [he]) ?_
  refine go ?_
  refine K_op rfl rfl (opr_callP rfl rfl (ce) rfl rfl rfl rfl) rfl ?_
  refine go ?_
  exact J_done hT rfl rfl rfl
 rw [if_neg he]
 by_cases h1 : x.1 ≠ 1
 ·rw [if_pos h1]
  refine ⟨.nils, .nils, .nils, .nils, ?_⟩
  refine con_of Tryz.func72 rfl (by kernel_rfl) rfl fun F w0 β0 => ?_
  refine K_tell rfl ?_
  refine go ?_
  refine J_drawFl2 11 6 13 (dH s2 [a0, a1, a2, a3, a4, a5, a6, a7, a8, a9, a10, a11, a12, a13, a14, a15] i) [opB o anyD, resB0, ndB (0, 0, 0, 0)] [opB o anyD, resB0, ndB x] (by kernel_rfl) (by kernel_rfl) rfl ?_
  refine gdG ?_
  refine G_stB rfl rfl rfl rfl rfl rfl rfl rfl rfl (opr_callS [.o 1, .o 2] rfl rfl c1 rfl rfl rfl ⟨⟨rfl, rfl⟩, ⟨rfl, rfl⟩, trivial⟩ rfl rfl rfl rfl) (opr_callS [.o 1, .o 2] rfl rfl c1 rfl rfl rfl ⟨⟨rfl, rfl⟩, ⟨rfl, rfl⟩, trivial⟩ rfl rfl rfl rfl) rfl ?_
  refine gdG ?_
  refine go ?_
  refine J_boxCall (rows := [a0, a1, a2, a3, a4, a5, a6, a7, a8, a9, a10, a11, a12, a13, a14, a15].map u32V) hT rfl rfl rfl rfl rfl rfl rfl rfl rfl rfl rfl rfl rfl rfl (by decide) (fun r hr => by obtain ⟨_, _, rfl⟩ := List.mem_map.1 hr; rfl) rfl rfl ci ?_
  refine go ?_
  refine K_condF rfl (by simp only [ne_eq, Decidable.not_not] at he; simp [he]) ?_
  refine go ?_
  refine K_condT rfl (by simp [h1]) ?_
  refine go ?_
  refine K_op rfl rfl (opr_callP rfl rfl (c13) rfl rfl rfl rfl) rfl ?_
  refine go ?_
  exact J_done hT rfl rfl rfl
 rw [if_neg h1]
 by_cases h2 : z < 0
 ·rw [if_pos h2]
  refine ⟨.nils, .nils, .nils, .nils, ?_⟩
  refine con_of Tryz.func72 rfl (by kernel_rfl) rfl fun F w0 β0 => ?_
  refine K_tell rfl ?_
  refine go ?_
  refine J_drawFl2 11 6 13 (dH s2 [a0, a1, a2, a3, a4, a5, a6, a7, a8, a9, a10, a11, a12, a13, a14, a15] i) [opB o anyD, resB0, ndB (0, 0, 0, 0)] [opB o anyD, resB0, ndB x] (by kernel_rfl) (by kernel_rfl) rfl ?_
  refine gdG ?_
  refine G_stB rfl rfl rfl rfl rfl rfl rfl rfl rfl (opr_callS [.o 1, .o 2] rfl rfl c1 rfl rfl rfl ⟨⟨rfl, rfl⟩, ⟨rfl, rfl⟩, trivial⟩ rfl rfl rfl rfl) (opr_callS [.o 1, .o 2] rfl rfl c1 rfl rfl rfl ⟨⟨rfl, rfl⟩, ⟨rfl, rfl⟩, trivial⟩ rfl rfl rfl rfl) rfl ?_
  refine gdG ?_
  refine go ?_
  refine J_boxCall (rows := [a0, a1, a2, a3, a4, a5, a6, a7, a8, a9, a10, a11, a12, a13, a14, a15].map u32V) hT rfl rfl rfl rfl rfl rfl rfl rfl rfl rfl rfl rfl rfl rfl (by decide) (fun r hr => by obtain ⟨_, _, rfl⟩ := List.mem_map.1 hr; rfl) rfl rfl ci ?_
  refine go ?_
  refine K_condF rfl (by simp only [ne_eq, Decidable.not_not] at he; simp [he]) ?_
  refine go ?_
  refine K_condF rfl (by simp only [ne_eq, Decidable.not_not] at h1; simp [h1]) ?_
  refine go ?_
  refine K_condT rfl (decide_eq_true h2) ?_
  refine go ?_
  refine K_op rfl rfl (opr_callP rfl rfl (c20) rfl rfl rfl rfl) rfl ?_
  refine go ?_
  exact J_done hT rfl rfl rfl
 rw [if_neg h2]
 refine ⟨.nils, .nils, .nils, .nils, ?_⟩
 refine con_of Tryz.func72 rfl (by kernel_rfl) rfl fun F w0 β0 => ?_
 refine K_tell rfl ?_
 refine go ?_
 refine J_drawFl2 11 6 13 (dH s2 [a0, a1, a2, a3, a4, a5, a6, a7, a8, a9, a10, a11, a12, a13, a14, a15] i) [opB o anyD, resB0, ndB (0, 0, 0, 0)] [opB o anyD, resB0, ndB x] (by kernel_rfl) (by kernel_rfl) rfl ?_
 refine gdG ?_
 refine G_stB rfl rfl rfl rfl rfl rfl rfl rfl rfl (opr_callS [.o 1, .o 2] rfl rfl c1 rfl rfl rfl ⟨⟨rfl, rfl⟩, ⟨rfl, rfl⟩, trivial⟩ rfl rfl rfl rfl) (opr_callS [.o 1, .o 2] rfl rfl c1 rfl rfl rfl ⟨⟨rfl, rfl⟩, ⟨rfl, rfl⟩, trivial⟩ rfl rfl rfl rfl) rfl ?_
 refine gdG ?_
 refine go ?_
 refine J_boxCall (rows := [a0, a1, a2, a3, a4, a5, a6, a7, a8, a9, a10, a11, a12, a13, a14, a15].map u32V) hT rfl rfl rfl rfl rfl rfl rfl rfl rfl rfl rfl rfl rfl rfl (by decide) (fun r hr => by obtain ⟨_, _, rfl⟩ := List.mem_map.1 hr; rfl) rfl rfl ci ?_
 refine go ?_
 refine K_condF rfl (by simp only [ne_eq, Decidable.not_not] at he; simp [he]) ?_
 refine go ?_
 refine K_condF rfl (by simp only [ne_eq, Decidable.not_not] at h1; simp [h1]) ?_
 refine go ?_
 refine K_condF rfl (decide_eq_false h2) ?_
 rcases cell16 (h := z) (by omega) (by omega) with rfl | rfl | rfl | rfl | rfl | rfl | rfl | rfl | rfl | rfl | rfl | rfl | rfl | rfl | rfl | rfl
 all_goals
  refine go ?_
  exact J_done hT rfl rfl rfl
end Go.Proofs.YtdkegmmigongoaaGreatDoor
