import Derived.Test.YtdkegmmigongoaaGreatDoorGo
import Derived.Test.YtdkegmmigongoaaGreatDoorM21
import Derived.Test.YtdkegmmigongoaaGreatDoorM32
import Derived.Test.YtdkegmmigongoaaGreatDoorM4
import Derived.Test.YtdkegmmigongoaaGreatDoorM19
namespace Go.Proofs.YtdkegmmigongoaaGreatDoor
set_option maxRecDepth 20000
open Go.Awp Tr
def RA (m : MF) : Prop := ∀ j x, m.at j = some x → x.k = 2 → ∃ N, Reach m N j
theorem RA.new : RA newM := fun j x h _ => by
 have h1 := at_mem h
 have : x = ⟨1, 2, 2, [], []⟩ := by simpa [newM] using h1.1
 subst this
 obtain rfl : (1 : Int) = j := h1.2
 exact ⟨[], .nil⟩
def OldK (m m' : MF) : Prop := ∀ j x', m'.at j = some x' → ∃ x, m.at j = some x ∧ x.k = x'.k
theorem OldK.refl (m : MF) : OldK m m := fun _ x h => ⟨x, h, rfl⟩
theorem OldK.trans {a b c : MF} (h : OldK a b) (h2 : OldK b c) : OldK a c := fun j x hx => by
 obtain ⟨y, h3, h4⟩ := h2 j x hx
 obtain ⟨z, h5, h6⟩ := h j y h3
 exact ⟨z, h5, h6.trans h4⟩
theorem OldK.linked (m : MF) (j b : Int) : OldK m (m.linked j b) := fun i x' h => by
 rw [at_linked] at h
 split at h
 ·rename_i e; subst e
  cases hm : m.at i with
  | none => rw [hm] at h; cases h
  | some y => rw [hm] at h; obtain rfl := Option.some.inj h; exact ⟨y, rfl, rfl⟩
 ·exact ⟨x', h, rfl⟩
theorem OldK.named (m : MF) (d : Int) (nm : List UInt8) (j : Int) : OldK m (m.named d nm j) := fun i x' h => by
 rw [at_named] at h
 split at h
 ·rename_i e; subst e
  cases hm : m.at i with
  | none => rw [hm] at h; cases h
  | some y => rw [hm] at h; obtain rfl := Option.some.inj h; exact ⟨y, rfl, rfl⟩
 ·exact ⟨x', h, rfl⟩
theorem OldK.without (m : MF) (j : Int) : OldK m (m.without j) := fun i x' h => by
 rw [at_without] at h
 split at h
 ·cases h
 ·exact ⟨x', h, rfl⟩
theorem OldK.moved (m : MF) (a b : MS) (dir : Bool) : OldK m (m.moved a b dir) := by
 unfold MF.moved
 have h := (OldK.named m a.d a.m 0).trans (OldK.named _ b.d b.m a.i)
 split
 ·exact (h.trans (OldK.linked _ _ _)).trans (OldK.linked _ _ _)
 ·exact h
def KeepL (m m' : MF) (L : Int → Prop) (P : Int → List UInt8 → Prop) : Prop := ∀ d x, m.at d = some x → x.k = 2 → L d → ∃ x', m'.at d = some x' ∧ x'.k = 2 ∧ ∀ nm, ¬ P d nm → lget nm x'.e = lget nm x.e
theorem KeepL.trans {m m' m'' : MF} {L : Int → Prop} {P Q : Int → List UInt8 → Prop} (h : KeepL m m' L P) (h2 : Keep m' m'' Q) : KeepL m m'' L (fun d nm => P d nm ∨ Q d nm) := fun d x hx hk hl => by
 obtain ⟨x', a1, a2, a3⟩ := h d x hx hk hl
 obtain ⟨x'', b1, b2, b3⟩ := h2 d x' a1 a2
 exact ⟨x'', b1, b2, fun nm q => (b3 nm fun e => q (.inr e)).trans (a3 nm fun e => q (.inl e))⟩
theorem gF_kH {c j : Int} (r : List UInt8) (hj : U32 j) : gF (keyH c j ++ r) 1 = j := by
 unfold gF keyH
 show beV (((beB 4 j ++ r)).take 4) = j
 rw [List.take_append_of_le_length (by rw [beB_len]; omega), List.take_of_length_le (by rw [beB_len]; omega)]
 exact beV_be4 j hj
def subD (m : MF) (d : Int) (l : List KV) : Nat := l.countP fun y => y.1.headD 0 == 69 && (gF y.1 1 == d) && (m.kind (beV y.2) == 2)
def cntA (n : Nat) : Option AV := if n = 0 then none else some (.int .i64 n)
abbrev Mp := List (Int × AV)
structure TI (m : MF) (l : List KV) (E B P : Mp) : Prop where
 e : ∀ j, U32 j → mget j E = cntA (refs j l)
 b : ∀ d, U32 d → mget d B = cntA (subD m d l)
 p : ∀ y ∈ l, y.1.headD 0 = 69 → m.kind (beV y.2) = 2 → mget (beV y.2) P = some (.int .u32 (gF y.1 1))
 eo : ∀ r ∈ E, plOk r.2 = true
 bo : ∀ r ∈ B, plOk r.2 = true
 po : ∀ r ∈ P, plOk r.2 = true
theorem TI.new (m : MF) : TI m [] [] [] [] := ⟨fun _ _ => rfl, fun _ _ => rfl, by simp, by simp, by simp, by simp⟩
theorem refs_app (j : Int) (l : List KV) (y : KV) : refs j (l ++ [y]) = refs j l + if refB j y = true then 1 else 0 := by
 unfold refs; rw [List.countP_append, List.countP_singleton]
theorem subD_app (m : MF) (d : Int) (l : List KV) (y : KV) : subD m d (l ++ [y]) = subD m d l + if (y.1.headD 0 == 69 && (gF y.1 1 == d) && (m.kind (beV y.2) == 2)) = true then 1 else 0 := by
 unfold subD; rw [List.countP_append, List.countP_singleton]
theorem TI.other {m : MF} {l : List KV} {E B P : Mp} (h : TI m l E B P) {y : KV} (hy : (y.1.headD 0 == 69) = false) : TI m (l ++ [y]) E B P := by
 refine ⟨fun j hj => ?_, fun d hd => ?_, fun z hz h1 h2 => ?_, h.eo, h.bo, h.po⟩
 ·rw [refs_app, if_neg (by unfold refB; rw [hy]; simp)]; exact h.e j hj
 ·rw [subD_app, if_neg (by rw [hy]; simp)]; exact h.b d hd
 ·rcases List.mem_append.1 hz with hz | hz
  ·exact h.p z hz h1 h2
  ·rw [List.mem_singleton] at hz
   subst hz
   rw [h1] at hy; simp at hy
theorem TI.file {m : MF} {l : List KV} {E B P : Mp} (h : TI m l E B P) {d k : Int} {nm : List UInt8} (hku : U32 k) (hk : m.kind k ≠ 2) : TI m (l ++ [(keyH 69 d ++ nm, beB 4 k)]) (mput k (.int .i64 ((refs k l : Int) + 1)) E) B P := by
 have hb : beV (beB 4 k) = k := beV_be4 k hku
 refine ⟨fun j hj => ?_, fun d' hd' => ?_, fun z hz h1 h2 => ?_, fun r hr => ?_, h.bo, h.po⟩
 ·rw [mget_mput, refs_app, refB_ent]
  by_cases e : j = k
  ·subst e
   rw [if_pos rfl, if_pos (by simp)]
   unfold cntA
   rw [if_neg (by omega)]; rfl
  ·rw [if_neg e, if_neg (by simp; intro q; exact e ((be4_inj hku hj).1 q).symm)]
   exact h.e j hj
 ·rw [subD_app, if_neg (by dsimp only; rw [hb]; simp [hk])]; exact h.b d' hd'
 ·rcases List.mem_append.1 hz with hz | hz
  ·exact h.p z hz h1 h2
  ·rw [List.mem_singleton] at hz
   subst hz
   dsimp only at h2
   rw [hb] at h2; exact absurd h2 hk
 ·rcases mput_mem hr with rfl | hr
  ·rfl
  ·exact h.eo r hr
theorem TI.dir {m : MF} {l : List KV} {E B P : Mp} (h : TI m l E B P) {d k : Int} {nm : List UInt8} (hdu : U32 d) (hku : U32 k) (hk : m.kind k = 2) (hno : ∀ z ∈ l, z.1.headD 0 = 69 → beV z.2 ≠ k) : TI m (l ++ [(keyH 69 d ++ nm, beB 4 k)]) (mput k (.int .i64 ((refs k l : Int) + 1)) E) (mput d (.int .i64 ((subD m d l : Int) + 1)) B) (mput k (.int .u32 d) P) := by
 have hb : beV (beB 4 k) = k := beV_be4 k hku
 refine ⟨fun j hj => ?_, fun d' hd' => ?_, fun z hz h1 h2 => ?_, fun r hr => ?_, fun r hr => ?_, fun r hr => ?_⟩
 ·rw [mget_mput, refs_app, refB_ent]
  by_cases e : j = k
  ·subst e
   rw [if_pos rfl, if_pos (by simp)]
   unfold cntA
   rw [if_neg (by omega)]; rfl
  ·rw [if_neg e, if_neg (by simp; intro q; exact e ((be4_inj hku hj).1 q).symm)]
   exact h.e j hj
 ·rw [mget_mput, subD_app]
  dsimp only
  rw [head_key, gF_kH nm hdu, hb, hk]
  by_cases e : d' = d
  ·subst e
   rw [if_pos rfl, if_pos (by simp)]
   unfold cntA
   rw [if_neg (by omega)]; rfl
  ·rw [if_neg e, if_neg (by simp; intro q; exact absurd q.symm e)]
   exact h.b d' hd'
 ·rw [mget_mput]
  rcases List.mem_append.1 hz with hz | hz
  ·rw [if_neg (hno z hz h1)]
   exact h.p z hz h1 h2
  ·rw [List.mem_singleton] at hz
   subst hz
   dsimp only
   rw [hb, if_pos rfl, gF_kH nm hdu]
 ·rcases mput_mem hr with rfl | hr
  ·rfl
  ·exact h.eo r hr
 ·rcases mput_mem hr with rfl | hr
  ·rfl
  ·exact h.bo r hr
 ·rcases mput_mem hr with rfl | hr
  ·rfl
  ·exact h.po r hr
inductive SplR (m : MF) (y : KV) : Prop where
 | ino (j : Int) (x : MN) (hj : U32 j) (hk : y.1 = keyH 73 j) (hs : splitK y.1 = (73, j, [], 0)) (hx : m.at j = some x) : SplR m y
 | ent (j k : Int) (nm : List UInt8) (x z : MN) (hj : U32 j) (hku : U32 k) (hk : y.1 = keyH 69 j ++ nm) (hs : splitK y.1 = (69, j, nm, 0)) (hn : nameB nm = true) (hx : m.at j = some x) (hg : lget nm x.e = some (beB 4 k)) (hv : y.2 = beB 4 k) (hz : m.at k = some z) : SplR m y
 | blk (j i : Int) (hh : y.1.headD 0 = 68) (hs : splitK y.1 = (68, j, [], i)) : SplR m y
theorem drop5 (c j : Int) (r : List UInt8) : (keyH c j ++ r).drop 5 = r := by
 have h := keyH_len c j
 rw [List.drop_append_of_le_length (by omega), List.drop_of_length_le (by omega)]; rfl
def sumF {α : Type} (f : α → Int) : List α → Int
 | [] => 0
 | x :: r => f x + sumF f r
theorem sumF_app {α : Type} (f : α → Int) : ∀ a b : List α, sumF f (a ++ b) = sumF f a + sumF f b
 | [], b => by show sumF f b = 0 + sumF f b; omega
 | x :: r, b => by
  show f x + sumF f (r ++ b) = f x + sumF f r + sumF f b
  rw [sumF_app f r b]; omega
theorem sumF_map {α β : Type} (f : β → Int) (h : α → β) : ∀ l : List α, sumF f (l.map h) = sumF (fun x => f (h x)) l
 | [] => rfl
 | x :: r => by
  show f (h x) + sumF f (r.map h) = _
  rw [sumF_map f h r]; rfl
theorem sumF_congr {α : Type} {f g : α → Int} : ∀ {l : List α}, (∀ x ∈ l, f x = g x) → sumF f l = sumF g l
 | [], _ => rfl
 | x :: r, h => by
  show f x + sumF f r = g x + sumF g r
  rw [h x (by simp), sumF_congr fun y hy => h y (by simp [hy])]
theorem sumF_zero {α : Type} {f : α → Int} {l : List α} (h : ∀ x ∈ l, f x = 0) : sumF f l = 0 := by
 induction l with
 | nil => rfl
 | cons x r ih =>
  show f x + sumF f r = 0
  rw [h x (by simp), ih fun y hy => h y (by simp [hy])]; rfl
theorem sumF_split {α : Type} (f : α → Int) (p : α → Bool) : ∀ l : List α, sumF f l = sumF f (l.filter p) + sumF f (l.filter fun x => !p x)
 | [] => rfl
 | x :: r => by
  show f x + sumF f r = _
  rw [sumF_split f p r]
  cases h : p x with
  | true =>
   rw [List.filter_cons_of_pos h, List.filter_cons_of_neg (by simp [h])]
   show _ = f x + _ + _
   omega
  | false =>
   rw [List.filter_cons_of_neg (by simp [h]), List.filter_cons_of_pos (by simp [h])]
   show _ = _ + (f x + _)
   omega
theorem sum_parts {α : Type} (f : α → Int) (own : α → Int) : ∀ (ns : List Int) (l : List α), ns.Nodup → (∀ y ∈ l, own y ∈ ns ∨ f y = 0) → sumF f l = sumF (fun n => sumF f (l.filter fun y => own y == n)) ns
 | [], l, _, h => sumF_zero fun y hy => (h y hy).resolve_left (by simp)
 | n :: r, l, hn, h => by
  obtain ⟨hn1, hn2⟩ := List.nodup_cons.1 hn
  show _ = sumF f (l.filter fun y => own y == n) + sumF _ r
  rw [sumF_split f (fun y => own y == n) l, sum_parts f own r (l.filter fun y => !(own y == n)) hn2 fun y hy => ?_]
  ·congr 1
   refine sumF_congr fun k hk => ?_
   rw [List.filter_filter]
   congr 1
   refine List.filter_congr fun y _ => ?_
   by_cases e : own y = k
   ·have : own y ≠ n := fun q => hn1 (by rw [← q, e]; exact hk)
    simp [e]
    rw [← e]; exact this
   ·simp [e]
  ·obtain ⟨h1, h2⟩ := List.mem_filter.1 hy
   rcases h y h1 with q | q
   ·rcases List.mem_cons.1 q with q | q
    ·rw [q] at h2; simp at h2
    ·exact .inl q
   ·exact .inr q
end Go.Proofs.YtdkegmmigongoaaGreatDoor
