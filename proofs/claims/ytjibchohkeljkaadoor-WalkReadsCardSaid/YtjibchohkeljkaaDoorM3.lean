/- Contracts and plain laws, several texts joined: Tr1, F10, F10b, Tr2, F10c, F10d, F10e, Tr3. -/
import Derived.Test.YtjibchohkeljkaaDoorM2
import Derived.Test.YtjibchohkeljkaaDoorGo
import Derived.Test.YtjibchohkeljkaaDoorProg
/- Trees: what they are, and what is made of them, in plain Lean. -/
namespace Go.Proofs.YtjibchohkeljkaaDoor
set_option maxRecDepth 20000
open Go.Awp
/-- A version of a tree. -/
inductive Tr where
  | nil
  | node (k v : List UInt8) (l r : Tr)
  deriving Inhabited
namespace Tr
def size : Tr → Nat
  | nil => 0
  | node _ _ l r => 1 + l.size + r.size
def high : Tr → Nat
  | nil => 0
  | node _ _ l r => 1 + max l.high r.high
theorem high_le : ∀ (t : Tr), t.high ≤ t.size
  | nil => Nat.le_refl _
  | node _ _ l r => by have := high_le l; have := high_le r; simp only [high, size]; omega
def av : Tr → AV
  | nil => .nilp
  | node k v l r => .pp [.str k, .str v, .cell l.av, .cell r.av, .int .i64 ((1 + l.size + r.size : Nat) : Int), .int .i64 ((1 + max l.high r.high : Nat) : Int)]
theorem av_cl (t : Tr) : cl t.av = true := by cases t <;> rfl
/-- The tree as a value that is handed on. -/
abbrev W (t : Tr) : TV := .p (.cell t.av)
def rotR : Tr → Tr
  | node k v (node k2 v2 a b) c => node k2 v2 a (node k v b c)
  | t => t
def rotL : Tr → Tr
  | node k v a (node k2 v2 b c) => node k2 v2 (node k v a b) c
  | t => t
def lean : Tr → Int
  | nil => 0
  | node _ _ l r => (l.high : Int) - (r.high : Int)
def join (k v : List UInt8) (l r : Tr) : Tr :=
  if (node k v l r).lean > 1 then rotR (if l.lean < 0 then node k v (rotL l) r else node k v l r)
  else if (node k v l r).lean < -1 then rotL (if r.lean > 0 then node k v l (rotR r) else node k v l r)
  else node k v l r
theorem rotR_size (t : Tr) : t.rotR.size = t.size := by
  unfold rotR; split
  · simp only [size]; omega
  · rfl
theorem rotL_size (t : Tr) : t.rotL.size = t.size := by
  unfold rotL; split
  · simp only [size]; omega
  · rfl
theorem join_size (k v : List UInt8) (l r : Tr) : (join k v l r).size = 1 + l.size + r.size := by
  unfold join
  split
  · rw [rotR_size]; split <;> simp only [size, rotL_size]
  · split
    · rw [rotL_size]; split <;> simp only [size, rotR_size]
    · rfl
end Tr
end Go.Proofs.YtjibchohkeljkaaDoor

/- tree: Len, High, with, turnRight, turnLeft, lean, join. -/
-- @D
namespace Go.Proofs.YtjibchohkeljkaaDoor
set_option maxRecDepth 20000
open Go.Awp Tr
theorem tnew_spec : Con Tryd.prog 17 [] [] (W .nil) [] [] := by
  refine con_of Tryd.func17 rfl (by kernel_rfl) rfl fun F w0 β0 => ?_
  refine K_tell rfl ?_
  refine go ?_
  refine J_wrap 0 rfl rfl ?_
  exact J_done hT rfl rfl rfl
theorem tlen_spec (t : Tr) : Con Tryd.prog 67 [W t] [] (.p (.int .i64 (t.size : Int))) [] [] := by
  cases t with
  | nil =>
    refine con_of Tryd.func67 rfl (by kernel_rfl) rfl fun F w0 β0 => ?_
    refine K_tell rfl ?_
    refine go ?_
    exact J_done hT rfl rfl rfl
  | node k v l r =>
    refine con_of Tryd.func67 rfl (by kernel_rfl) rfl fun F w0 β0 => ?_
    refine K_tell rfl ?_
    refine go ?_
    exact J_done hT rfl rfl rfl
theorem thigh_spec (t : Tr) : Con Tryd.prog 104 [W t] [] (.p (.int .i64 (t.high : Int))) [] [] := by
  cases t with
  | nil =>
    refine con_of Tryd.func104 rfl (by kernel_rfl) rfl fun F w0 β0 => ?_
    refine K_tell rfl ?_
    refine go ?_
    exact J_done hT rfl rfl rfl
  | node k v l r =>
    refine con_of Tryd.func104 rfl (by kernel_rfl) rfl fun F w0 β0 => ?_
    refine K_tell rfl ?_
    refine go ?_
    exact J_done hT rfl rfl rfl
theorem tmax (a b : Nat) : mmA .max (a : Int) (b : Int) = ((max a b : Nat) : Int) := by unfold mmA; simp only []; split <;> omega
def big40 : Nat := 1099511627776
set_option maxHeartbeats 4000000 in
theorem twith_spec (k v : List UInt8) (l0 r0 l r : Tr) (hl : l.size ≤ big40) (hr : r.size ≤ big40) : Con Tryd.prog 95 [W (node k v l0 r0), W l, W r] [] (W (node k v l r)) [] [] := by
  unfold big40 at hl hr
  have h1 := high_le l
  have h2 := high_le r
  have e22 : IntKind.i64.wrap (IntKind.i64.wrap (1 + (l.size : Int)) + (r.size : Int)) = ((1 + l.size + r.size : Nat) : Int) := by rw [IntWalk.i64_in (1 + _) (by omega), IntWalk.i64_in _ (by omega)]; omega
  have e28 : IntKind.i64.wrap (1 + mmA .max (l.high : Int) (r.high : Int)) = ((1 + max l.high r.high : Nat) : Int) := by rw [tmax, IntWalk.i64_in _ (by omega)]; omega
  have ex : AV.pp [.str k, .str v, .cell l.av, .cell r.av, .int .i64 (IntKind.i64.wrap (IntKind.i64.wrap (1 + (l.size : Int)) + (r.size : Int))), .int .i64 (IntKind.i64.wrap (1 + mmA .max (l.high : Int) (r.high : Int)))] = (node k v l r).av := by rw [e22, e28]; rfl
  have c1 := tlen_spec l
  have c2 := tlen_spec r
  have c3 := thigh_spec l
  have c4 := thigh_spec r
  refine con_of Tryd.func95 rfl (by kernel_rfl) rfl fun F w0 β0 => ?_
  refine K_tell rfl ?_
  refine go ?_
  refine J_draw [[]] [] (by kernel_rfl) (by kernel_rfl) rfl ?_
  refine gd ?_
  refine T_opD rfl rfl rfl rfl rfl (opr_call0P rfl rfl (c1) rfl rfl rfl) rfl ?_
  refine gd ?_
  refine T_opD rfl rfl rfl rfl rfl (opr_call0P rfl rfl (c2) rfl rfl rfl) rfl ?_
  refine gd ?_
  refine T_opD rfl rfl rfl rfl rfl (opr_call0P rfl rfl (c3) rfl rfl rfl) rfl ?_
  refine gd ?_
  refine T_opD rfl rfl rfl rfl rfl (opr_call0P rfl rfl (c4) rfl rfl rfl) rfl ?_
  refine gd ?_
  refine J_then ?_
  refine K_tell rfl ?_
  refine go ?_
  refine J_val 6 _ rfl (congrArg TV.p ex) ?_
  refine J_wrap 6 rfl rfl ?_
  exact J_done hT rfl rfl rfl
theorem tlean_spec (k v : List UInt8) (l r : Tr) (hl : l.size ≤ big40) (hr : r.size ≤ big40) : Con Tryd.prog 96 [W (node k v l r)] [] (.p (.int .i64 (node k v l r).lean)) [] [] := by
  unfold big40 at hl hr
  have h1 := high_le l
  have h2 := high_le r
  have c3 := thigh_spec l
  have c4 := thigh_spec r
  have e : IntKind.i64.wrap ((l.high : Int) - (r.high : Int)) = (l.high : Int) - (r.high : Int) := IntWalk.i64_in _ (by omega)
  refine con_of Tryd.func96 rfl (by kernel_rfl) rfl fun F w0 β0 => ?_
  refine K_tell rfl ?_
  refine go ?_
  refine J_draw [[]] [] (by kernel_rfl) (by kernel_rfl) rfl ?_
  refine gd ?_
  refine T_opD rfl rfl rfl rfl rfl (opr_call0P rfl rfl (c3) rfl rfl rfl) rfl ?_
  refine gd ?_
  refine T_opD rfl rfl rfl rfl rfl (opr_call0P rfl rfl (c4) rfl rfl rfl) rfl ?_
  refine gd ?_
  refine J_then ?_
  refine K_tell rfl ?_
  refine go ?_
  refine J_val 2 _ rfl (congrArg (fun z => TV.p (.int .i64 z)) e) ?_
  exact J_done hT rfl rfl rfl
set_option maxHeartbeats 4000000 in
theorem trotL_spec (k v : List UInt8) (a : Tr) (k2 v2 : List UInt8) (b c : Tr) (h : (node k v a (node k2 v2 b c)).size ≤ big40) : Con Tryd.prog 97 [W (node k v a (node k2 v2 b c))] [] (W (node k2 v2 (node k v a b) c)) [] [] := by
  simp only [Tr.size] at h
  have c1 := twith_spec k v a (node k2 v2 b c) a b (by omega) (by omega)
  have c2 := twith_spec k2 v2 b c (node k v a b) c (by simp only [Tr.size]; omega) (by omega)
  refine con_of Tryd.func97 rfl (by kernel_rfl) rfl fun F w0 β0 => ?_
  refine K_tell rfl ?_
  refine go ?_
  refine J_draw [[]] [] (by kernel_rfl) (by kernel_rfl) rfl ?_
  refine gd ?_
  refine T_opD rfl rfl rfl rfl rfl (opr_call0P rfl rfl (c1) rfl rfl rfl) rfl ?_
  refine gd ?_
  refine T_opD rfl rfl rfl rfl rfl (opr_call0P rfl rfl (c2) rfl rfl rfl) rfl ?_
  refine gd ?_
  refine J_then ?_
  refine K_tell rfl ?_
  refine go ?_
  exact J_done hT rfl rfl rfl
set_option maxHeartbeats 4000000 in
theorem trotR_spec (k v : List UInt8) (k2 v2 : List UInt8) (a b c : Tr) (h : (node k v (node k2 v2 a b) c).size ≤ big40) : Con Tryd.prog 98 [W (node k v (node k2 v2 a b) c)] [] (W (node k2 v2 a (node k v b c))) [] [] := by
  simp only [Tr.size] at h
  have c1 := twith_spec k v (node k2 v2 a b) c b c (by omega) (by omega)
  have c2 := twith_spec k2 v2 a b a (node k v b c) (by omega) (by simp only [Tr.size]; omega)
  refine con_of Tryd.func98 rfl (by kernel_rfl) rfl fun F w0 β0 => ?_
  refine K_tell rfl ?_
  refine go ?_
  refine J_draw [[]] [] (by kernel_rfl) (by kernel_rfl) rfl ?_
  refine gd ?_
  refine T_opD rfl rfl rfl rfl rfl (opr_call0P rfl rfl (c1) rfl rfl rfl) rfl ?_
  refine gd ?_
  refine T_opD rfl rfl rfl rfl rfl (opr_call0P rfl rfl (c2) rfl rfl rfl) rfl ?_
  refine gd ?_
  refine J_then ?_
  refine K_tell rfl ?_
  refine go ?_
  exact J_done hT rfl rfl rfl
end Go.Proofs.YtjibchohkeljkaaDoor

/- tree: join, Get. -/
-- @D
namespace Go.Proofs.YtjibchohkeljkaaDoor
set_option maxRecDepth 20000
open Go.Awp Tr
set_option maxHeartbeats 4000000 in
theorem tjoin_spec (k v : List UInt8) (l0 r0 l r : Tr) (h : 1 + l.size + r.size ≤ big40) : Con Tryd.prog 85 [W (node k v l0 r0), W l, W r] [] (W (Tr.join k v l r)) [] [] := by
  have c1 := twith_spec k v l0 r0 l r (by omega) (by omega)
  have c2 := tlean_spec k v l r (by omega) (by omega)
  by_cases h1 : (node k v l r).lean > 1
  · match l, h1 with
    | nil, h1 => simp [Tr.lean, Tr.high] at h1; omega
    | node k2 v2 a b, h1 =>
    simp only [Tr.size] at h
    have c3 := tlean_spec k2 v2 a b (by omega) (by omega)
    by_cases h2 : (node k2 v2 a b).lean < 0
    · match b, h2 with
      | nil, h2 => simp [Tr.lean, Tr.high] at h2; omega
      | node k3 v3 b1 b2, h2 =>
      have e : Tr.join k v (node k2 v2 a (node k3 v3 b1 b2)) r = node k3 v3 (node k2 v2 a b1) (node k v b2 r) := by
        unfold Tr.join; rw [if_pos h1, if_pos h2]; rfl
      simp only [Tr.size] at h
      have c4 := trotL_spec k2 v2 a k3 v3 b1 b2 (by simp only [Tr.size]; omega)
      have c5 := twith_spec k v l0 r0 (node k3 v3 (node k2 v2 a b1) b2) r (by simp only [Tr.size]; omega) (by omega)
      have c6 := trotR_spec k v k3 v3 (node k2 v2 a b1) b2 r (by simp only [Tr.size]; omega)
      rw [e]
      refine con_of Tryd.func85 rfl (by kernel_rfl) rfl fun F w0 β0 => ?_
      refine K_tell rfl ?_
      refine go ?_
      refine K_op rfl rfl (opr_callP rfl rfl (c1) rfl rfl rfl rfl) rfl ?_
      refine go ?_
      refine K_op rfl rfl (opr_callP rfl rfl (c2) rfl rfl rfl rfl) rfl ?_
      refine go ?_
      refine K_condT rfl (decide_eq_true h1) ?_
      refine go ?_
      refine K_op rfl rfl (opr_callP rfl rfl (c3) rfl rfl rfl rfl) rfl ?_
      refine go ?_
      refine K_condT rfl (decide_eq_true h2) ?_
      refine go ?_
      refine K_op rfl rfl (opr_callP rfl rfl (c4) rfl rfl rfl rfl) rfl ?_
      refine go ?_
      refine K_op rfl rfl (opr_callP rfl rfl (c5) rfl rfl rfl rfl) rfl ?_
      refine go ?_
      refine K_op rfl rfl (opr_callP rfl rfl (c6) rfl rfl rfl rfl) rfl ?_
      refine go ?_
      exact J_done hT rfl rfl rfl
    · have e : Tr.join k v (node k2 v2 a b) r = node k2 v2 a (node k v b r) := by
        unfold Tr.join; rw [if_pos h1, if_neg h2]; rfl
      have c6 := trotR_spec k v k2 v2 a b r (by simp only [Tr.size]; omega)
      rw [e]
      refine con_of Tryd.func85 rfl (by kernel_rfl) rfl fun F w0 β0 => ?_
      refine K_tell rfl ?_
      refine go ?_
      refine K_op rfl rfl (opr_callP rfl rfl (c1) rfl rfl rfl rfl) rfl ?_
      refine go ?_
      refine K_op rfl rfl (opr_callP rfl rfl (c2) rfl rfl rfl rfl) rfl ?_
      refine go ?_
      refine K_condT rfl (decide_eq_true h1) ?_
      refine go ?_
      refine K_op rfl rfl (opr_callP rfl rfl (c3) rfl rfl rfl rfl) rfl ?_
      refine go ?_
      refine K_condF rfl (decide_eq_false h2) ?_
      refine go ?_
      refine K_op rfl rfl (opr_callP rfl rfl (c6) rfl rfl rfl rfl) rfl ?_
      refine go ?_
      exact J_done hT rfl rfl rfl
  by_cases h3 : (node k v l r).lean < -1
  · match r, h1, h3 with
    | nil, h1, h3 => simp [Tr.lean, Tr.high] at h3; omega
    | node k2 v2 a b, h1, h3 =>
    simp only [Tr.size] at h
    have c3 := tlean_spec k2 v2 a b (by omega) (by omega)
    by_cases h2 : (node k2 v2 a b).lean > 0
    · match a, h2 with
      | nil, h2 => simp [Tr.lean, Tr.high] at h2; omega
      | node k3 v3 b1 b2, h2 =>
      have e : Tr.join k v l (node k2 v2 (node k3 v3 b1 b2) b) = node k3 v3 (node k v l b1) (node k2 v2 b2 b) := by
        unfold Tr.join; rw [if_neg h1, if_pos h3, if_pos h2]; rfl
      simp only [Tr.size] at h
      have c4 := trotR_spec k2 v2 k3 v3 b1 b2 b (by simp only [Tr.size]; omega)
      have c5 := twith_spec k v l0 r0 l (node k3 v3 b1 (node k2 v2 b2 b)) (by omega) (by simp only [Tr.size]; omega)
      have c6 := trotL_spec k v l k3 v3 b1 (node k2 v2 b2 b) (by simp only [Tr.size]; omega)
      rw [e]
      refine con_of Tryd.func85 rfl (by kernel_rfl) rfl fun F w0 β0 => ?_
      refine K_tell rfl ?_
      refine go ?_
      refine K_op rfl rfl (opr_callP rfl rfl (c1) rfl rfl rfl rfl) rfl ?_
      refine go ?_
      refine K_op rfl rfl (opr_callP rfl rfl (c2) rfl rfl rfl rfl) rfl ?_
      refine go ?_
      refine K_condF rfl (decide_eq_false h1) ?_
      refine go ?_
      refine K_condT rfl (decide_eq_true h3) ?_
      refine go ?_
      refine K_op rfl rfl (opr_callP rfl rfl (c3) rfl rfl rfl rfl) rfl ?_
      refine go ?_
      refine K_condT rfl (decide_eq_true h2) ?_
      refine go ?_
      refine K_op rfl rfl (opr_callP rfl rfl (c4) rfl rfl rfl rfl) rfl ?_
      refine go ?_
      refine K_op rfl rfl (opr_callP rfl rfl (c5) rfl rfl rfl rfl) rfl ?_
      refine go ?_
      refine K_op rfl rfl (opr_callP rfl rfl (c6) rfl rfl rfl rfl) rfl ?_
      refine go ?_
      exact J_done hT rfl rfl rfl
    · have e : Tr.join k v l (node k2 v2 a b) = node k2 v2 (node k v l a) b := by
        unfold Tr.join; rw [if_neg h1, if_pos h3, if_neg h2]; rfl
      have c6 := trotL_spec k v l k2 v2 a b (by simp only [Tr.size]; omega)
      rw [e]
      refine con_of Tryd.func85 rfl (by kernel_rfl) rfl fun F w0 β0 => ?_
      refine K_tell rfl ?_
      refine go ?_
      refine K_op rfl rfl (opr_callP rfl rfl (c1) rfl rfl rfl rfl) rfl ?_
      refine go ?_
      refine K_op rfl rfl (opr_callP rfl rfl (c2) rfl rfl rfl rfl) rfl ?_
      refine go ?_
      refine K_condF rfl (decide_eq_false h1) ?_
      refine go ?_
      refine K_condT rfl (decide_eq_true h3) ?_
      refine go ?_
      refine K_op rfl rfl (opr_callP rfl rfl (c3) rfl rfl rfl rfl) rfl ?_
      refine go ?_
      refine K_condF rfl (decide_eq_false h2) ?_
      refine go ?_
      refine K_op rfl rfl (opr_callP rfl rfl (c6) rfl rfl rfl rfl) rfl ?_
      refine go ?_
      exact J_done hT rfl rfl rfl
  · have e : Tr.join k v l r = node k v l r := by
      unfold Tr.join; rw [if_neg h1, if_neg h3]
    rw [e]
    refine con_of Tryd.func85 rfl (by kernel_rfl) rfl fun F w0 β0 => ?_
    refine K_tell rfl ?_
    refine go ?_
    refine K_op rfl rfl (opr_callP rfl rfl (c1) rfl rfl rfl rfl) rfl ?_
    refine go ?_
    refine K_op rfl rfl (opr_callP rfl rfl (c2) rfl rfl rfl rfl) rfl ?_
    refine go ?_
    refine K_condF rfl (decide_eq_false h1) ?_
    refine go ?_
    refine K_condF rfl (decide_eq_false h3) ?_
    refine go ?_
    exact J_done hT rfl rfl rfl
end Go.Proofs.YtjibchohkeljkaaDoor

/- Trees: Set, Cut, Get, in plain Lean. -/
namespace Go.Proofs.YtjibchohkeljkaaDoor
set_option maxRecDepth 20000
open Go.Awp
namespace Tr
def set (k v : List UInt8) : Tr → Tr
  | nil => node k v nil nil
  | node k0 v0 l r => if Op.bytesLess k k0 = true then join k0 v0 (l.set k v) r else if k = k0 then node k v l r else join k0 v0 l (r.set k v)
def get (k : List UInt8) : Tr → Option (List UInt8)
  | nil => none
  | node k0 v0 l r => if k0 = k then some v0 else if Op.bytesLess k k0 = true then l.get k else r.get k
theorem set_size (k v : List UInt8) : ∀ (t : Tr), (t.set k v).size ≤ t.size + 1
  | nil => by simp [set, size]
  | node k0 v0 l r => by
    have h1 := set_size k v l
    have h2 := set_size k v r
    simp only [set]
    split
    · rw [join_size]; simp only [size]; omega
    · split
      · simp only [size]; omega
      · rw [join_size]; simp only [size]; omega
/-- The first key, and its value. -/
def min : Tr → List UInt8 × List UInt8
  | nil => ([], [])
  | node k v nil _ => (k, v)
  | node _ _ (node k v l r) _ => (node k v l r).min
def cut : Tr → List UInt8 → Tr
  | nil, _ => nil
  | node k0 v0 l r, k => if (node k0 v0 l r).get k = none then node k0 v0 l r
    else if Op.bytesLess k k0 = true then join k0 v0 (l.cut k) r
    else if k = k0 then (match l, r with
      | nil, r => r
      | node a b c d, nil => node a b c d
      | node a b c d, node e f g h => join (node e f g h).min.1 (node e f g h).min.2 (node a b c d) (cut (node e f g h) (node e f g h).min.1))
    else join k0 v0 l (r.cut k)
theorem cut_node (k0 v0 : List UInt8) (l r : Tr) (k : List UInt8) : (node k0 v0 l r).cut k = if (node k0 v0 l r).get k = none then node k0 v0 l r
    else if Op.bytesLess k k0 = true then join k0 v0 (l.cut k) r
    else if k = k0 then (match l, r with
      | nil, r => r
      | node a b c d, nil => node a b c d
      | node a b c d, node e f g h => join (node e f g h).min.1 (node e f g h).min.2 (node a b c d) (cut (node e f g h) (node e f g h).min.1))
    else join k0 v0 l (r.cut k) := by
  conv => lhs; unfold cut
theorem cut_size : ∀ (t : Tr) (k : List UInt8), (t.cut k).size ≤ t.size
  | nil, k => by simp [cut]
  | node k0 v0 l r, k => by
    have h1 := cut_size l k
    have h2 := cut_size r k
    have h3 := fun k' => cut_size r k'
    unfold cut
    split
    · exact Nat.le_refl _
    · split
      · rw [join_size]; simp only [size]; omega
      · split
        · split
          · simp only [size]; omega
          · simp only [size]; omega
          · rename_i a b c d e f g h _
            rw [join_size]
            have := h3 (node e f g h).min.1
            simp only [size] at this ⊢
            omega
        · rw [join_size]; simp only [size]; omega
end Tr
end Go.Proofs.YtjibchohkeljkaaDoor

/- tree: Set. -/
-- @D
namespace Go.Proofs.YtjibchohkeljkaaDoor
set_option maxRecDepth 20000
open Go.Awp Tr
set_option maxHeartbeats 8000000 in
theorem tset_spec (k v : List UInt8) : ∀ (t : Tr), t.size + 2 ≤ big40 → Con Tryd.prog 64 [W t, .p (.str k), .p (.str v)] [] (W (t.set k v)) [] []
  | .nil, h => by
    refine con_of Tryd.func64 rfl (by kernel_rfl) rfl fun F w0 β0 => ?_
    refine K_tell rfl ?_
    refine go ?_
    refine J_freeze_box 6 0 rfl rfl rfl ?_
    refine J_le 6 ((Tr.node k v .nil .nil).av) rfl (pp_le (.cons (.refl _) (.cons (.refl _) (.cons (cell_le rfl) (.cons (cell_le rfl) (.cons (.refl _) (.cons (.refl _) .nil))))))) ?_
    refine J_wrap 6 rfl rfl ?_
    exact J_done hT rfl rfl rfl
  | .node k0 v0 l r, h => by
    simp only [Tr.size] at h
    have hl := set_size k v l
    have hr := set_size k v r
    have c1 := tset_spec k v l (by omega)
    have c2 := tset_spec k v r (by omega)
    have c3 := tjoin_spec k0 v0 l r (l.set k v) r (by omega)
    have c4 := tjoin_spec k0 v0 l r l (r.set k v) (by omega)
    by_cases h1 : Op.bytesLess k k0 = true
    · have e : (node k0 v0 l r).set k v = Tr.join k0 v0 (l.set k v) r := by simp only [Tr.set]; rw [if_pos h1]
      rw [e]
      refine con_of Tryd.func64 rfl (by kernel_rfl) rfl fun F w0 β0 => ?_
      refine K_tell rfl ?_
      refine go ?_
      refine K_condT rfl h1 ?_
      refine J_seq ?_
      refine J_draw [[]] [] (by kernel_rfl) (by kernel_rfl) rfl ?_
      refine gd ?_
      refine T_opD rfl rfl rfl rfl rfl (opr_call0P rfl rfl (c1) rfl rfl rfl) rfl ?_
      refine gd ?_
      refine T_opD rfl rfl rfl rfl rfl (opr_call0P rfl rfl (c3) rfl rfl rfl) rfl ?_
      refine gd ?_
      refine J_then ?_
      refine K_tell rfl ?_
      refine go ?_
      exact J_done hT rfl rfl rfl
    · have h1' : Op.bytesLess k k0 = false := by simpa using h1
      by_cases h2 : k = k0
      · have e : (node k0 v0 l r).set k v = node k v l r := by simp only [Tr.set]; rw [if_neg h1, if_pos h2]
        rw [e]
        refine con_of Tryd.func64 rfl (by kernel_rfl) rfl fun F w0 β0 => ?_
        refine K_tell rfl ?_
        refine go ?_
        refine K_condF rfl h1' ?_
        refine go ?_
        refine K_condF rfl (by simp [h2]) ?_
        refine go ?_
        refine J_draw [[]] [] (by kernel_rfl) (by kernel_rfl) rfl ?_
        refine gd ?_
        refine J_then ?_
        refine K_tell rfl ?_
        refine go ?_
        refine J_wrap 6 rfl rfl ?_
        exact J_done hT rfl rfl rfl
      · have e : (node k0 v0 l r).set k v = Tr.join k0 v0 l (r.set k v) := by simp only [Tr.set]; rw [if_neg h1, if_neg h2]
        rw [e]
        refine con_of Tryd.func64 rfl (by kernel_rfl) rfl fun F w0 β0 => ?_
        refine K_tell rfl ?_
        refine go ?_
        refine K_condF rfl h1' ?_
        refine go ?_
        refine K_condT rfl (by simp [h1', h2]) ?_
        refine J_seq ?_
        refine J_draw [[]] [] (by kernel_rfl) (by kernel_rfl) rfl ?_
        refine gd ?_
        refine T_opD rfl rfl rfl rfl rfl (opr_call0P rfl rfl (c2) rfl rfl rfl) rfl ?_
        refine gd ?_
        refine T_opD rfl rfl rfl rfl rfl (opr_call0P rfl rfl (c4) rfl rfl rfl) rfl ?_
        refine gd ?_
        refine J_then ?_
        refine K_tell rfl ?_
        refine go ?_
        exact J_done hT rfl rfl rfl
end Go.Proofs.YtjibchohkeljkaaDoor

/- tree: Get, Rank. -/
-- @D
namespace Go.Proofs.YtjibchohkeljkaaDoor
set_option maxRecDepth 20000
open Go.Awp Tr
def getT : Option (List UInt8) → TV
  | some v => .tup [.p (.str v), .p (.bool true)]
  | none => .tup [.p (.str []), .p (.bool false)]
structure GetJ (k : List UInt8) (g : Option (List UInt8)) where
  t : Tr
  h : t.get k = g
set_option maxHeartbeats 4000000 in
theorem tget_spec (k : List UInt8) (t : Tr) : Con Tryd.prog 72 [W t, .p (.str k)] [] (getT (t.get k)) [] [] := by
  generalize hg : t.get k = g
  refine con_of Tryd.func72 rfl (by kernel_rfl) rfl fun F w0 β0 => ?_
  refine K_tell rfl ?_
  refine go ?_
  refine J_loop (fun s : GetJ k g => [(0, W s.t), (1, .p (.str k))]) (fun _ => []) (fun _ => []) (fun s => s.t.size) ⟨t, hg⟩ ⟨rfl, rfl, trivial⟩ rfl rfl (fun s => ?_)
  obtain ⟨t', ht⟩ := s
  clear hg t
  cases t' with
  | nil =>
    obtain rfl := ht
    refine go ?_
    exact J_done hT rfl rfl rfl
  | node k0 v0 l r =>
    by_cases h1 : k0 = k
    · have e : g = some v0 := by rw [← ht]; simp only [Tr.get]; rw [if_pos h1]
      subst e
      refine go ?_
      refine K_condF rfl (by simp [h1]) ?_
      refine go ?_
      exact J_done hT rfl rfl rfl
    · have e : g = if Op.bytesLess k k0 = true then l.get k else r.get k := by rw [← ht]; simp only [Tr.get]; rw [if_neg h1]
      refine go ?_
      refine K_condT rfl (by simp [h1]) ?_
      refine go ?_
      refine J_cond rfl (fun h2 => ?_) (fun h2 => ?_)
      · rw [if_pos h2] at e
        refine go ?_
        refine J_again ⟨l, e.symm⟩ (by simp only [Tr.size]; omega) ⟨rfl, rfl, trivial⟩ rfl rfl
      · rw [h2, if_neg (by simp)] at e
        refine go ?_
        refine J_again ⟨r, e.symm⟩ (by simp only [Tr.size]; omega) ⟨rfl, rfl, trivial⟩ rfl rfl
end Go.Proofs.YtjibchohkeljkaaDoor

/- tree: Cut. -/
-- @D
namespace Go.Proofs.YtjibchohkeljkaaDoor
set_option maxRecDepth 20000
open Go.Awp Tr
structure MinJ (m : List UInt8 × List UInt8) where
  k : List UInt8
  v : List UInt8
  l : Tr
  r : Tr
  h : (node k v l r).min = m
set_option maxHeartbeats 8000000 in
theorem tcut_spec : ∀ (t : Tr) (k : List UInt8), t.size + 2 ≤ big40 → Con Tryd.prog 73 [W t, .p (.str k)] [] (W (t.cut k)) [] []
  | .nil, k, h => by
    have c1 := tget_spec k .nil
    refine con_of Tryd.func73 rfl (by kernel_rfl) rfl fun F w0 β0 => ?_
    refine K_tell rfl ?_
    refine go ?_
    refine K_op rfl rfl (opr_callP rfl rfl (c1) rfl rfl rfl rfl) rfl ?_
    refine go ?_
    exact J_done hT rfl rfl rfl
  | .node k0 v0 l r, k, h => by
    have c1 := tget_spec k (.node k0 v0 l r)
    simp only [Tr.size] at h
    cases hg : (node k0 v0 l r).get k with
    | none =>
      rw [hg] at c1
      have e : (node k0 v0 l r).cut k = node k0 v0 l r := by rw [cut_node, if_pos hg]
      rw [e]
      refine con_of Tryd.func73 rfl (by kernel_rfl) rfl fun F w0 β0 => ?_
      refine K_tell rfl ?_
      refine go ?_
      refine K_op rfl rfl (opr_callP rfl rfl (c1) rfl rfl rfl rfl) rfl ?_
      refine go ?_
      exact J_done hT rfl rfl rfl
    | some w =>
      rw [hg] at c1
      have hne : ¬ (node k0 v0 l r).get k = none := by rw [hg]; simp
      have hl := cut_size l k
      have hr := cut_size r k
      by_cases h1 : Op.bytesLess k k0 = true
      · have e : (node k0 v0 l r).cut k = Tr.join k0 v0 (l.cut k) r := by rw [cut_node, if_neg hne, if_pos h1]
        have c2 := tcut_spec l k (by omega)
        have c3 := tjoin_spec k0 v0 l r (l.cut k) r (by omega)
        rw [e]
        refine con_of Tryd.func73 rfl (by kernel_rfl) rfl fun F w0 β0 => ?_
        refine K_tell rfl ?_
        refine go ?_
        refine K_op rfl rfl (opr_callP rfl rfl (c1) rfl rfl rfl rfl) rfl ?_
        refine go ?_
        refine K_condT rfl h1 ?_
        refine J_seq ?_
        refine J_draw [[]] [] (by kernel_rfl) (by kernel_rfl) rfl ?_
        refine gd ?_
        refine T_opD rfl rfl rfl rfl rfl (opr_call0P rfl rfl (c2) rfl rfl rfl) rfl ?_
        refine gd ?_
        refine T_opD rfl rfl rfl rfl rfl (opr_call0P rfl rfl (c3) rfl rfl rfl) rfl ?_
        refine gd ?_
        refine J_then ?_
        refine K_tell rfl ?_
        refine go ?_
        exact J_done hT rfl rfl rfl
      have h1' : Op.bytesLess k k0 = false := by simpa using h1
      by_cases h2 : k = k0
      · match l, r, h with
        | .nil, r, h =>
          have e : (node k0 v0 .nil r).cut k = r := by rw [cut_node, if_neg hne, if_neg h1, if_pos h2]
          rw [e]
          refine con_of Tryd.func73 rfl (by kernel_rfl) rfl fun F w0 β0 => ?_
          refine K_tell rfl ?_
          refine go ?_
          refine K_op rfl rfl (opr_callP rfl rfl (c1) rfl rfl rfl rfl) rfl ?_
          refine go ?_
          refine K_condF rfl h1' ?_
          refine go ?_
          refine K_condF rfl (by simp [h2]) ?_
          refine go ?_
          exact J_done hT rfl rfl rfl
        | .node a b c d, .nil, h =>
          have e : (node k0 v0 (.node a b c d) .nil).cut k = .node a b c d := by rw [cut_node, if_neg hne, if_neg h1, if_pos h2]
          rw [e]
          refine con_of Tryd.func73 rfl (by kernel_rfl) rfl fun F w0 β0 => ?_
          refine K_tell rfl ?_
          refine go ?_
          refine K_op rfl rfl (opr_callP rfl rfl (c1) rfl rfl rfl rfl) rfl ?_
          refine go ?_
          refine K_condF rfl h1' ?_
          refine go ?_
          refine K_condF rfl (by simp [h2]) ?_
          refine go ?_
          exact J_done hT rfl rfl rfl
        | .node a b c d, .node e f g i, h =>
          have e0 : (node k0 v0 (.node a b c d) (.node e f g i)).cut k = Tr.join (node e f g i).min.1 (node e f g i).min.2 (node a b c d) ((node e f g i).cut (node e f g i).min.1) := by
            rw [cut_node, if_neg hne, if_neg h1, if_pos h2]
          rw [e0]
          have c2 := tcut_spec (node e f g i) (node e f g i).min.1 (by simp only [Tr.size] at h ⊢; omega)
          have hs := cut_size (node e f g i) (node e f g i).min.1
          have c3 := fun l0 r0 => tjoin_spec (node e f g i).min.1 (node e f g i).min.2 l0 r0 (node a b c d) ((node e f g i).cut (node e f g i).min.1) (by simp only [Tr.size] at h hs ⊢; omega)
          generalize hm : (node e f g i).min = m at c2 c3
          generalize hB : (node e f g i).cut m.1 = B at c2 c3
          refine con_of Tryd.func73 rfl (by kernel_rfl) rfl fun F w0 β0 => ?_
          refine K_tell rfl ?_
          refine go ?_
          refine K_op rfl rfl (opr_callP rfl rfl (c1) rfl rfl rfl rfl) rfl ?_
          refine go ?_
          refine K_condF rfl h1' ?_
          refine go ?_
          refine K_condF rfl (by simp [h2]) ?_
          refine go ?_
          refine J_loop (fun s : MinJ m => [(0, W (node k0 v0 (.node a b c d) (.node e f g i))), (7, W (node s.k s.v s.l s.r))]) (fun _ => []) (fun _ => []) (fun s => (node s.k s.v s.l s.r).size) ⟨e, f, g, i, hm⟩ ⟨rfl, rfl, trivial⟩ rfl rfl (fun s => ?_)
          obtain ⟨k', v', l', r', hmin⟩ := s
          cases l' with
          | nil =>
            have hm2 : m = (k', v') := hmin.symm
            subst hm2
            refine go ?_
            refine J_draw [[]] [] (by kernel_rfl) (by kernel_rfl) rfl ?_
            refine gd ?_
            refine T_opD rfl rfl rfl rfl rfl (opr_call0P rfl rfl (c2) rfl rfl rfl) rfl ?_
            refine gd ?_
            refine T_opD rfl rfl rfl rfl rfl (opr_call0P rfl rfl (c3 .nil r') rfl rfl rfl) rfl ?_
            refine gd ?_
            refine J_then ?_
            refine K_tell rfl ?_
            refine go ?_
            exact J_done hT rfl rfl rfl
          | node k2 v2 l2 r2 =>
            refine go ?_
            refine J_again ⟨k2, v2, l2, r2, hmin⟩ (by show (node k2 v2 l2 r2).size < (node k' v' (node k2 v2 l2 r2) r').size; simp only [Tr.size]; omega) ⟨rfl, rfl, trivial⟩ rfl rfl
      · have e : (node k0 v0 l r).cut k = Tr.join k0 v0 l (r.cut k) := by rw [cut_node, if_neg hne, if_neg h1, if_neg h2]
        have c2 := tcut_spec r k (by omega)
        have c3 := tjoin_spec k0 v0 l r l (r.cut k) (by omega)
        rw [e]
        refine con_of Tryd.func73 rfl (by kernel_rfl) rfl fun F w0 β0 => ?_
        refine K_tell rfl ?_
        refine go ?_
        refine K_op rfl rfl (opr_callP rfl rfl (c1) rfl rfl rfl rfl) rfl ?_
        refine go ?_
        refine K_condF rfl h1' ?_
        refine go ?_
        refine K_condT rfl (by simp [h1', h2]) ?_
        refine J_seq ?_
        refine J_draw [[]] [] (by kernel_rfl) (by kernel_rfl) rfl ?_
        refine gd ?_
        refine T_opD rfl rfl rfl rfl rfl (opr_call0P rfl rfl (c2) rfl rfl rfl) rfl ?_
        refine gd ?_
        refine T_opD rfl rfl rfl rfl rfl (opr_call0P rfl rfl (c3) rfl rfl rfl) rfl ?_
        refine gd ?_
        refine J_then ?_
        refine K_tell rfl ?_
        refine go ?_
        exact J_done hT rfl rfl rfl
end Go.Proofs.YtjibchohkeljkaaDoor

/- Trees as rows that rise, in plain Lean. -/
namespace Go.Proofs.YtjibchohkeljkaaDoor
set_option maxRecDepth 20000
open Go.Awp
abbrev KV := List UInt8 × List UInt8
def lt (a b : List UInt8) : Prop := Op.bytesLess a b = true
theorem lt_trans {a b c : List UInt8} (h : lt a b) (k : lt b c) : lt a c := bl_trans h k
theorem lt_irrefl (a : List UInt8) : ¬ lt a a := fun h => by unfold lt at h; rw [bl_irrefl] at h; cases h
theorem lt_asymm {a b : List UInt8} (h : lt a b) : ¬ lt b a := fun k => lt_irrefl a (lt_trans h k)
theorem lt_ne {a b : List UInt8} (h : lt a b) : a ≠ b := fun e => by rw [e] at h; exact lt_irrefl b h
theorem lt_cases (a b : List UInt8) : lt a b ∨ a = b ∨ lt b a := by
  unfold lt
  cases h1 : Op.bytesLess a b with
  | true => exact .inl rfl
  | false =>
    cases h2 : Op.bytesLess b a with
    | true => exact .inr (.inr rfl)
    | false => exact .inr (.inl (bl_total h1 h2))
instance (a b : List UInt8) : Decidable (lt a b) := by unfold lt; infer_instance
/-- Keys rise. -/
def Rises (l : List KV) : Prop := l.Pairwise fun a b => lt a.1 b.1
def lset (k v : List UInt8) : List KV → List KV
  | [] => [(k, v)]
  | x :: r => if lt k x.1 then (k, v) :: x :: r else if k = x.1 then (k, v) :: r else x :: lset k v r
def lget (k : List UInt8) : List KV → Option (List UInt8)
  | [] => none
  | x :: r => if x.1 = k then some x.2 else lget k r
def lcut (k : List UInt8) (l : List KV) : List KV := l.filter fun x => !(x.1 == k)
def inB (a b : List UInt8) (x : KV) : Bool := inR x.1 a b
def lrange (a b : List UInt8) (l : List KV) : List KV := l.filter fun x => inR x.1 a b
def lrank (k : List UInt8) (l : List KV) : Nat := (l.filter fun x => Op.bytesLess x.1 k).length
theorem rises_app {A B : List KV} {x : KV} : Rises (A ++ x :: B) ↔ Rises A ∧ Rises B ∧ (∀ a ∈ A, lt a.1 x.1) ∧ (∀ b ∈ B, lt x.1 b.1) ∧ ∀ a ∈ A, ∀ b ∈ B, lt a.1 b.1 := by
  unfold Rises
  rw [List.pairwise_append, List.pairwise_cons]
  constructor
  · rintro ⟨h1, ⟨h2, h3⟩, h4⟩
    exact ⟨h1, h3, fun a ha => h4 a ha x (by simp), h2, fun a ha b hb => h4 a ha b (by simp [hb])⟩
  · rintro ⟨h1, h2, h3, h4, h5⟩
    refine ⟨h1, ⟨h4, h2⟩, fun a ha b hb => ?_⟩
    rcases List.mem_cons.1 hb with rfl | hb
    · exact h3 a ha
    · exact h5 a ha b hb
theorem lset_left (k v : List UInt8) (x : KV) (B : List KV) (hk : lt k x.1) : ∀ A : List KV, (∀ a ∈ A, lt a.1 x.1) → lset k v (A ++ x :: B) = lset k v A ++ x :: B
  | [], _ => by simp [lset, hk]
  | a :: A, h => by
    simp only [List.cons_append, lset]
    split
    · rfl
    · split
      · rfl
      · rw [lset_left k v x B hk A fun b hb => h b (by simp [hb])]; rfl
theorem lset_at (k v : List UInt8) (x : KV) (B : List KV) (hk : k = x.1) : ∀ A : List KV, (∀ a ∈ A, lt a.1 x.1) → lset k v (A ++ x :: B) = A ++ (k, v) :: B
  | [], _ => by subst hk; simp [lset, lt_irrefl]
  | a :: A, h => by
    have h1 := h a (by simp)
    simp only [List.cons_append, lset]
    rw [if_neg (by rw [hk]; exact lt_asymm h1), if_neg (by rw [hk]; exact fun e => lt_ne h1 e.symm), lset_at k v x B hk A fun b hb => h b (by simp [hb])]
theorem lset_right (k v : List UInt8) (x : KV) (B : List KV) (hk : lt x.1 k) : ∀ A : List KV, (∀ a ∈ A, lt a.1 x.1) → lset k v (A ++ x :: B) = A ++ x :: lset k v B
  | [], _ => by simp only [List.nil_append, lset]; rw [if_neg (lt_asymm hk), if_neg fun e => lt_ne hk e.symm]
  | a :: A, h => by
    have h1 := lt_trans (h a (by simp)) hk
    simp only [List.cons_append, lset]
    rw [if_neg (lt_asymm h1), if_neg fun e => lt_ne h1 e.symm, lset_right k v x B hk A fun b hb => h b (by simp [hb])]
theorem lget_none {k : List UInt8} : ∀ {l : List KV}, (∀ x ∈ l, x.1 ≠ k) → lget k l = none
  | [], _ => rfl
  | x :: r, h => by simp only [lget]; rw [if_neg (h x (by simp)), lget_none fun y hy => h y (by simp [hy])]
theorem lget_append (k : List UInt8) : ∀ (A B : List KV), lget k (A ++ B) = (lget k A).or (lget k B)
  | [], B => by simp [lget]
  | a :: A, B => by
    simp only [List.cons_append, lget]
    split
    · rfl
    · exact lget_append k A B
theorem lset_mem {k v : List UInt8} : ∀ {l : List KV} {y : KV}, y ∈ lset k v l → y = (k, v) ∨ y ∈ l
  | [], y, h => by simp [lset] at h; exact .inl h
  | x :: r, y, h => by
    simp only [lset] at h
    split at h
    · rcases List.mem_cons.1 h with h | h
      · exact .inl h
      · exact .inr h
    · split at h
      · rcases List.mem_cons.1 h with h | h
        · exact .inl h
        · exact .inr (by simp [h])
      · rcases List.mem_cons.1 h with h | h
        · exact .inr (by simp [h])
        · rcases lset_mem h with h | h
          · exact .inl h
          · exact .inr (by simp [h])
theorem lset_rises {k v : List UInt8} : ∀ {l : List KV}, Rises l → Rises (lset k v l)
  | [], _ => by simp [lset, Rises]
  | x :: r, h => by
    have h' := List.pairwise_cons.1 h
    simp only [lset]
    split
    · rename_i hk
      refine List.pairwise_cons.2 ⟨fun y hy => ?_, h⟩
      rcases List.mem_cons.1 hy with rfl | hy
      · exact hk
      · exact lt_trans hk (h'.1 y hy)
    · split
      · rename_i hk
        exact List.pairwise_cons.2 ⟨fun y hy => by rw [hk]; exact h'.1 y hy, h'.2⟩
      · rename_i h1 h2
        have hk : lt x.1 k := (lt_cases k x.1).elim (fun h => absurd h h1) fun h => h.elim (fun h => absurd h h2) id
        refine List.pairwise_cons.2 ⟨fun y hy => ?_, lset_rises h'.2⟩
        rcases lset_mem hy with rfl | hy
        · exact hk
        · exact h'.1 y hy
theorem lcut_rises {k : List UInt8} {l : List KV} (h : Rises l) : Rises (lcut k l) := List.Pairwise.sublist List.filter_sublist h
theorem lcut_none {k : List UInt8} {l : List KV} (h : ∀ x ∈ l, x.1 ≠ k) : lcut k l = l := List.filter_eq_self.2 fun x hx => by simpa using h x hx
namespace Tr
def row : Tr → List KV
  | nil => []
  | node k v l r => l.row ++ (k, v) :: r.row
theorem row_len : ∀ (t : Tr), t.row.length = t.size
  | nil => rfl
  | node k v l r => by simp only [row, size, List.length_append, List.length_cons, row_len l, row_len r]; omega
theorem rotR_row (t : Tr) : t.rotR.row = t.row := by
  unfold rotR; split
  · simp [row]
  · rfl
theorem rotL_row (t : Tr) : t.rotL.row = t.row := by
  unfold rotL; split
  · simp [row]
  · rfl
theorem join_row (k v : List UInt8) (l r : Tr) : (join k v l r).row = l.row ++ (k, v) :: r.row := by
  unfold join
  split
  · rw [rotR_row]; split <;> simp only [row, rotL_row]
  · split
    · rw [rotL_row]; split <;> simp only [row, rotR_row]
    · rfl
theorem set_row (k v : List UInt8) : ∀ (t : Tr), Rises t.row → (t.set k v).row = lset k v t.row
  | nil, _ => rfl
  | node k0 v0 l r, h => by
    obtain ⟨h1, h2, h3, h4, _⟩ := rises_app.1 h
    simp only [set, row]
    by_cases hk : Op.bytesLess k k0 = true
    · rw [if_pos hk, join_row, set_row k v l h1, lset_left k v (k0, v0) r.row hk l.row h3]
    · rw [if_neg hk]
      by_cases he : k = k0
      · rw [if_pos he, lset_at k v (k0, v0) r.row he l.row h3]; rfl
      · rw [if_neg he, join_row, set_row k v r h2]
        have hk2 : lt k0 k := (lt_cases k k0).elim (fun h => absurd h hk) fun h => h.elim (fun h => absurd h he) id
        rw [lset_right k v (k0, v0) r.row hk2 l.row h3]
theorem get_row (k : List UInt8) : ∀ (t : Tr), Rises t.row → t.get k = lget k t.row
  | nil, _ => rfl
  | node k0 v0 l r, h => by
    obtain ⟨h1, h2, h3, h4, _⟩ := rises_app.1 h
    simp only [get, row]
    rw [lget_append]
    by_cases he : k0 = k
    · rw [if_pos he, lget_none (l := l.row) fun x hx => by rw [← he]; exact lt_ne (h3 x hx)]
      simp [lget, he]
    · rw [if_neg he]
      by_cases hk : Op.bytesLess k k0 = true
      · rw [if_pos hk, get_row k l h1]
        have : lget k ((k0, v0) :: r.row) = none := lget_none fun x hx => by
          rcases List.mem_cons.1 hx with rfl | hx
          · exact he
          · exact fun e => lt_ne (lt_trans hk (h4 x hx)) e.symm
        rw [this]; cases lget k l.row <;> rfl
      · rw [if_neg hk, get_row k r h2]
        have hk2 : lt k0 k := (lt_cases k k0).elim (fun h => absurd h hk) fun h => h.elim (fun h => absurd h.symm he) id
        rw [lget_none (l := l.row) fun x hx => lt_ne (lt_trans (h3 x hx) hk2)]
        simp [lget, he]
theorem min_row : ∀ (t : Tr), t ≠ nil → ∃ B, t.row = t.min :: B
  | nil, h => absurd rfl h
  | node k v nil r, _ => ⟨r.row, by simp [row, min]⟩
  | node k v (node k2 v2 a b) r, _ => by
    obtain ⟨B, hB⟩ := min_row (node k2 v2 a b) (by simp)
    refine ⟨B ++ (k, v) :: r.row, ?_⟩
    rw [row, hB]
    rfl
theorem cut_row : ∀ (t : Tr) (k : List UInt8), Rises t.row → (t.cut k).row = lcut k t.row
  | nil, k, _ => rfl
  | node k0 v0 l r, k, h => by
    obtain ⟨h1, h2, h3, h4, h5⟩ := rises_app.1 h
    have happ : lcut k (node k0 v0 l r).row = lcut k l.row ++ lcut k ((k0, v0) :: r.row) := by simp [row, lcut]
    rw [cut_node]
    split
    · rename_i hn
      rw [get_row k _ h] at hn
      refine (lcut_none fun x hx e => ?_).symm
      have : ∀ l : List KV, lget k l = none → ∀ x ∈ l, x.1 ≠ k := by
        intro l
        induction l with
        | nil => intro _ x hx; simp at hx
        | cons y r ih =>
          intro hg x hx
          simp only [lget] at hg
          split at hg
          · cases hg
          · rename_i hy
            rcases List.mem_cons.1 hx with rfl | hx
            · exact hy
            · exact ih hg x hx
      exact this _ hn x hx e
    · by_cases hk : Op.bytesLess k k0 = true
      · rw [if_pos hk, join_row, cut_row l k h1, happ]
        congr 1
        refine (lcut_none fun x hx => ?_).symm
        rcases List.mem_cons.1 hx with rfl | hx
        · exact fun e => lt_ne hk e.symm
        · exact fun e => lt_ne (lt_trans hk (h4 x hx)) e.symm
      · rw [if_neg hk]
        by_cases he : k = k0
        · rw [if_pos he, happ]
          have e1 : lcut k l.row = l.row := lcut_none fun x hx => by rw [he]; exact lt_ne (h3 x hx)
          have e2 : lcut k ((k0, v0) :: r.row) = r.row := by
            have : lcut k r.row = r.row := lcut_none fun x hx => by rw [he]; exact fun e => lt_ne (h4 x hx) e.symm
            simp only [lcut, List.filter_cons, he, beq_self_eq_true, Bool.not_true, Bool.false_eq_true, if_false] at this ⊢
            exact this
          rw [e1, e2]
          match l, r with
          | nil, r => simp [row]
          | node a b c d, nil => simp [row]
          | node a b c d, node e f g i =>
            obtain ⟨B, hB⟩ := min_row (node e f g i) (by simp)
            have ih := cut_row (node e f g i) (node e f g i).min.1 h2
            simp only []
            rw [join_row, ih]
            have hr2 := h2
            rw [hB] at hr2
            have hr3 := List.pairwise_cons.1 hr2
            have : lcut (node e f g i).min.1 (node e f g i).row = B := by
              rw [hB]
              have : lcut (node e f g i).min.1 B = B := lcut_none fun x hx => fun e => lt_ne (hr3.1 x hx) e.symm
              simp only [lcut, List.filter_cons, beq_self_eq_true, Bool.not_true, Bool.false_eq_true, if_false] at this ⊢
              exact this
            rw [this, hB]
        · rw [if_neg he, join_row, cut_row r k h2, happ]
          have hk2 : lt k0 k := (lt_cases k k0).elim (fun h => absurd h hk) fun h => h.elim (fun h => absurd h he) id
          have e1 : lcut k l.row = l.row := lcut_none fun x hx => lt_ne (lt_trans (h3 x hx) hk2)
          have e2 : lcut k ((k0, v0) :: r.row) = (k0, v0) :: lcut k r.row := by
            have : (k0 == k) = false := beq_eq_false_iff_ne.2 fun e => he e.symm
            simp [lcut, this]
          rw [e1, e2]
end Tr
end Go.Proofs.YtjibchohkeljkaaDoor
