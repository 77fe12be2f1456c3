import Derived.Test.YtdkegmmigongoaaGreatDoorGo
import Derived.Test.YtdkegmmigongoaaGreatDoorM27
import Derived.Test.YtdkegmmigongoaaGreatDoorM9
import Derived.Test.YtdkegmmigongoaaGreatDoorM5
import Derived.Test.YtdkegmmigongoaaGreatDoorM3
import Derived.Test.YtdkegmmigongoaaGreatDoorM11
namespace Go.Proofs.YtdkegmmigongoaaGreatDoor
set_option maxRecDepth 20000
open Go.Awp Tr
def KeepL (m m' : MF) (L : Int → Prop) (P : Int → List UInt8 → Prop) : Prop := ∀ d x, m.at d = some x → x.k = 2 → L d → ∃ x', m'.at d = some x' ∧ x'.k = 2 ∧ ∀ nm, ¬ P d nm → lget nm x'.e = lget nm x.e
theorem KeepL.trans {m m' m'' : MF} {L : Int → Prop} {P Q : Int → List UInt8 → Prop} (h : KeepL m m' L P) (h2 : Keep m' m'' Q) : KeepL m m'' L (fun d nm => P d nm ∨ Q d nm) := fun d x hx hk hl => by
 obtain ⟨x', a1, a2, a3⟩ := h d x hx hk hl
 obtain ⟨x'', b1, b2, b3⟩ := h2 d x' a1 a2
 exact ⟨x'', b1, b2, fun nm q => (b3 nm fun e => q (.inr e)).trans (a3 nm fun e => q (.inl e))⟩
theorem reach_keepL {m m' : MF} {L : Int → Prop} {P : Int → List UInt8 → Prop} (hK : KeepL m m' L P) {N : List (List UInt8)} {d : Int} (h : Reach m N d) (hL : ∀ d xd x v, m.at d = some xd → lget x xd.e = some v → L d) : (∃ x, m.at d = some x ∧ x.k = 2 ∧ L d) → (∀ M dd nm xd i z, Reach m M dd → m.at dd = some xd → lget nm xd.e = some (beB 4 i) → m.at i = some z → z.k = 2 → L i → M ++ [nm] <+: N → ¬ P dd nm) → Reach m' N d := by
 induction h with
 | nil => intro _ _; exact .nil
 | @snoc N d i xd x h hd hk hg hi ih =>
  intro ⟨z, hz, hzk, hzl⟩ hP
  have hl := hL d xd x _ hd hg
  obtain ⟨xd', a1, a2, a3⟩ := hK d xd hd hk hl
  have hr := ih ⟨xd, hd, hk, hl⟩ fun M dd nm xd2 i2 z2 g1 g2 g3 g4 g5 g5' g6 => hP M dd nm xd2 i2 z2 g1 g2 g3 g4 g5 g5' (List.IsPrefix.trans g6 (List.prefix_append _ _))
  exact .snoc hr a1 a2 (by rw [a3 x (hP N d x xd i z h hd hg hz hzk hzl (List.prefix_refl _))]; exact hg) hi
theorem moved_ra {l : List KV} {m m1 : MF} {par : Int → Int} (R : Rel l m par) {c : Nat} (hw1 : m1.wk c) (h : RA m) {a b : MS} {dir : Bool} {xd z xe : MN} (L : Int → Prop) (hL : ∀ d xd x v, m.at d = some xd → lget x xd.e = some v → L d) (hLn : ∀ d, m1.at d ≠ none → L d)
  (hK : KeepL m m1 L (fun d nm => d = b.d ∧ nm = b.m)) (hO : OldK m m1) (hx : InD m par a.d a.m a.i xd z) (he : m.at b.d = some xe) (hek : xe.k = 2) (hel : L b.d) (hil : L a.i)
  (hb : ∀ i w, lget b.m xe.e = some (beB 4 i) → m.at i = some w → w.k = 2 → ¬ L i) {N1 N2 : List (List UInt8)} (hN1 : Reach m N1 a.d) (hN2 : Reach m N2 b.d) (hun : z.k = 2 → ¬ (N1 ++ [a.m] <+: N2)) : RA (m1.moved a b dir) := by
 have hiu := (R.u _ _ hx.hi).1
 have hKm := hK.trans (moved_keep hw1 a b dir)
 have hO2 := hO.trans (OldK.moved m1 a b dir)
 have hent : ∀ d nm xd2 i w, m.at d = some xd2 → lget nm xd2.e = some (beB 4 i) → m.at i = some w → w.k = 2 → L i → U32 i → ((d = b.d ∧ nm = b.m) ∨ ((d = a.d ∧ nm = a.m) ∨ (d = b.d ∧ nm = b.m))) → d = a.d ∧ nm = a.m ∧ i = a.i ∧ w = z := by
  intro d nm xd2 i w q1 q2 q3 q4 q5 q6 q
  have hno : ¬ (d = b.d ∧ nm = b.m) := fun ⟨e1, e2⟩ => by
   subst e1 e2
   rw [he] at q1
   obtain rfl := Option.some.inj q1
   exact hb i w q2 q3 q4 q5
  rcases q with q | ⟨rfl, rfl⟩ | q
  ·exact absurd q hno
  ·rw [hx.hd] at q1
   obtain rfl := Option.some.inj q1
   have := (be4_inj hiu q6).1 (Option.some.inj (hx.hg.symm.trans q2))
   subst this
   rw [hx.hi] at q3
   exact ⟨rfl, rfl, rfl, (Option.some.inj q3).symm⟩
  ·exact absurd q hno
 have hr2 : z.k = 2 → Reach (m1.moved a b dir) N2 b.d := fun k2 => reach_keepL hKm hN2 hL ⟨xe, he, hek, hel⟩ fun M dd nm xd2 i w g1 g2 g3 g4 g5 g5' g6 q => by
  obtain ⟨e1, e2, _, _⟩ := hent dd nm xd2 i w g2 g3 g4 g5 g5' (R.u _ _ g4).1 q
  subst e1 e2
  have := reach_one R g1 hN1 hx.hd hx.hk
  subst this
  exact hun k2 g6
 obtain ⟨xe1, c1, c2, _⟩ := hK b.d xe he hek hel
 have hnew : ∃ y, (m1.moved a b dir).at b.d = some y ∧ y.k = 2 ∧ lget b.m y.e = some (beB 4 a.i) := by
  have w2 := hw1.named a.d a.m 0
  obtain ⟨y1, d1, d2, _⟩ := (Keep.named hw1 a.d a.m 0) b.d xe1 c1 c2
  have base : ∃ y, ((m1.named a.d a.m 0).named b.d b.m a.i).at b.d = some y ∧ y.k = 2 ∧ lget b.m y.e = some (beB 4 a.i) := by
   rw [at_named, if_pos rfl, d1]
   refine ⟨_, rfl, d2, ?_⟩
   dsimp only
   rw [nmE_set hx.h0, lget_lset (w2.r y1 (at_mem d1).1), if_pos rfl]
  obtain ⟨y, f1, f2, f3⟩ := base
  unfold MF.moved
  split
  ·obtain ⟨y', p1, p2, p3⟩ := ((Keep.linked _ a.d (-1)).trans (Keep.linked _ b.d 1)) b.d y f1 f2
   exact ⟨y', p1, p2, by rw [p3 b.m (by rintro (q | q) <;> exact q)]; exact f3⟩
  ·exact ⟨y, f1, f2, f3⟩
 obtain ⟨y, f1, f2, f3⟩ := hnew
 intro j x' hj hjk
 obtain ⟨x2, g1, g2⟩ := hO2 j x' hj
 obtain ⟨x3, g3, _⟩ := OldK.moved m1 a b dir j x' hj
 have hjl : L j := hLn j (by rw [g3]; simp)
 obtain ⟨N, hN⟩ := h j x2 g1 (g2.trans hjk)
 refine RA_ind L hL (fun d xd2 nm i w N' q1 q2 q3 q4 q5 q6 q7 q8 => ?_) hN ⟨x2, g1, g2.trans hjk⟩ hjl
 by_cases hq : (d = b.d ∧ nm = b.m) ∨ ((d = a.d ∧ nm = a.m) ∨ (d = b.d ∧ nm = b.m))
 ·obtain ⟨_, _, rfl, rfl⟩ := hent d nm xd2 i w q1 q3 q4 q5 q7 q6 hq
  exact ⟨N2 ++ [b.m], .snoc (hr2 q5) f1 f2 f3 hiu⟩
 ·obtain ⟨xd', a1, a2, a3⟩ := hKm d xd2 q1 q2 (hL d xd2 nm _ q1 q3)
  exact ⟨N' ++ [nm], .snoc q8 a1 a2 (by rw [a3 nm hq]; exact q3) q6⟩
theorem rename_ra {l : List KV} {m : MF} {par : Int → Int} (R : Rel l m par) {c : Nat} (hw : m.wk c) (h : RA m) (o p : List UInt8) : RA (m.rename o p).2 := by
 unfold MF.rename
 by_cases h1 : (m.findP o).2 ≠ 0
 ·rw [if_pos h1]; exact h
 rw [if_neg h1]
 by_cases h3 : (m.findP o).1.i = 1
 ·rw [if_pos h3]; exact h
 rw [if_neg h3]
 by_cases h2 : (m.findP o).1.i = 0
 ·rw [if_pos h2]; exact h
 rw [if_neg h2]
 by_cases h4 : (m.findP p).2 ≠ 0
 ·rw [if_pos h4]; exact h
 rw [if_neg h4]
 by_cases h5 : (m.findP p).1.i = 1
 ·rw [if_pos h5]; exact h
 rw [if_neg h5]
 by_cases h6 : (m.findP p).1.i = (m.findP o).1.i
 ·rw [if_pos h6]; exact h
 rw [if_neg h6]
 have h1 : (m.findP o).2 = 0 := by simpa using h1
 have h4 : (m.findP p).2 = 0 := by simpa using h4
 obtain ⟨xd, z, hx⟩ := R.ind h1 h2 h3
 obtain ⟨N1, p1, p2, p3⟩ := R.path h1 h3
 obtain ⟨N2, q1, q2, _⟩ := R.path h4 h5
 have hkz : m.kind (m.findP o).1.i = z.k := by unfold MF.kind; rw [hx.hi]
 rw [hkz]
 by_cases hun : (z.k = 2 && underB (namesP o) (namesP p)) = true
 ·rw [if_pos hun]; exact h
 rw [if_neg hun]
 have hun2 : z.k = 2 → ¬ (N1 ++ [(m.findP o).1.m] <+: N2) := fun k2 g6 => by
  refine hun ?_
  rw [← p1] at g6
  have hl := g6.length_le
  unfold underB
  rw [Bool.and_eq_true, Bool.and_eq_true, decide_eq_true_eq, decide_eq_true_eq, decide_eq_true_eq, q1]
  refine ⟨k2, by rw [List.length_append, List.length_singleton]; omega, ?_⟩
  rw [List.take_append_of_le_length hl]
  exact (List.prefix_iff_eq_take.1 g6)
 by_cases h7 : (m.findP p).1.i = 0
 ·rw [if_pos h7]
  rcases R.fnd h4 with e | ⟨xe, ht, _⟩ | ⟨xt, zt, ht⟩
  ·rw [e] at h5; exact absurd rfl h5
  ·exact moved_ra R hw h (fun _ => True) (fun _ _ _ _ _ _ => trivial) (fun _ _ => trivial) (fun d x a b _ => ⟨x, a, b, fun _ _ => rfl⟩) (OldK.refl m) hx ht.hd ht.hk trivial trivial (fun i w f1 _ _ => by rw [ht.hg] at f1; cases f1) p2 q2 hun2
  ·exact absurd h7 ht.h0
 rw [if_neg h7]
 obtain ⟨xt, zt, ht⟩ := R.ind h4 h7 h5
 dsimp only
 have hju := (R.u _ _ ht.hi).1
 by_cases k2 : z.k = 2
 ·rw [if_pos k2]
  by_cases h8 : (m.rmv (m.findP p).1).1 ≠ 0
  ·rw [if_pos h8]; exact h
  rw [if_neg h8]
  have hrm : zt.k = 2 ∧ zt.e = [] ∧ (m.rmv (m.findP p).1).2 = ((m.without (m.findP p).1.i).linked (m.findP p).1.d (-1)).named (m.findP p).1.d (m.findP p).1.m 0 := by
   unfold MF.rmv at h8 ⊢
   rw [ht.hi] at h8 ⊢
   dsimp only at h8 ⊢
   by_cases b1 : zt.k ≠ 2
   ·rw [if_pos b1] at h8; exact absurd (show ((12 : Int), m).1 ≠ 0 from (by decide : (12 : Int) ≠ 0)) h8
   rw [if_neg b1] at h8 ⊢
   by_cases b2 : zt.e.length > 0
   ·rw [if_pos b2] at h8; exact absurd (show ((14 : Int), m).1 ≠ 0 from (by decide : (14 : Int) ≠ 0)) h8
   rw [if_neg b2]
   exact ⟨by simpa using b1, List.eq_nil_of_length_eq_zero (by omega), rfl⟩
  obtain ⟨b1, b2, b3⟩ := hrm
  have hL : ∀ d xd x v, m.at d = some xd → lget x xd.e = some v → d ≠ (m.findP p).1.i := fun d xd x v f1 f2 f3 => by
   rw [f3, ht.hi] at f1
   obtain rfl := Option.some.inj f1
   rw [b2] at f2; cases f2
  have w1 := (hw.without (m.findP p).1.i).linked (m.findP p).1.d (-1) (by omega)
  refine moved_ra R (rmv_wk hw _) h (fun d => d ≠ (m.findP p).1.i) hL (fun d f1 f2 => ?_) ?_ ?_ hx ht.hd ht.hk (hL _ _ _ _ ht.hd ht.hg) (fun q => h6 q.symm) (fun i w f1 f2 _ f3 => ?_) p2 q2 hun2
  ·rw [b3] at f1
   cases hm : (((m.without (m.findP p).1.i).linked (m.findP p).1.d (-1)).named (m.findP p).1.d (m.findP p).1.m 0).at d with
   | none => exact f1 hm
   | some y =>
    obtain ⟨y2, g1, _⟩ := ((OldK.linked (m.without (m.findP p).1.i) (m.findP p).1.d (-1)).trans (OldK.named _ _ _ _)) d y hm
    rw [at_without, if_pos f2] at g1; cases g1
  ·rw [b3]
   intro d x f1 f2 f3
   obtain ⟨x3, a1, a2, a3⟩ := (Keep.linked (m.without (m.findP p).1.i) (m.findP p).1.d (-1)).trans (Keep.named w1 (m.findP p).1.d (m.findP p).1.m 0) d x (by rw [at_without, if_neg f3]; exact f1) f2
   exact ⟨x3, a1, a2, fun nm q => a3 nm (by rintro (g | g); exact g; exact q g)⟩
  ·rw [b3]
   exact ((OldK.without m _).trans (OldK.linked _ _ _)).trans (OldK.named _ _ _ _)
  ·rw [ht.hg] at f1
   exact f3 ((be4_inj hju (R.u _ _ f2).1).1 (Option.some.inj f1)).symm
 ·rw [if_neg k2]
  by_cases h8 : (m.unl (m.findP p).1).1 ≠ 0
  ·rw [if_pos h8]; exact h
  rw [if_neg h8]
  have hrm : zt.k ≠ 2 ∧ (m.unl (m.findP p).1).2 = (if zt.n = 1 then m.without (m.findP p).1.i else m.linked (m.findP p).1.i (-1)).named (m.findP p).1.d (m.findP p).1.m 0 := by
   unfold MF.unl at h8 ⊢
   rw [ht.hi] at h8 ⊢
   dsimp only at h8 ⊢
   by_cases b1 : zt.k = 2
   ·rw [if_pos b1] at h8; exact absurd (show ((13 : Int), m).1 ≠ 0 from (by decide : (13 : Int) ≠ 0)) h8
   rw [if_neg b1]
   exact ⟨b1, rfl⟩
  obtain ⟨b1, b3⟩ := hrm
  have hkind : m.kind (m.findP p).1.i ≠ 2 := by unfold MF.kind; rw [ht.hi]; exact b1
  have hk1 : ∃ m2, (if zt.n = 1 then m.without (m.findP p).1.i else m.linked (m.findP p).1.i (-1)) = m2 ∧ Keep m m2 (fun _ _ => False) ∧ OldK m m2 ∧ m2.wk (c + 1) := by
   split
   ·exact ⟨_, rfl, Keep.without hkind, OldK.without m _, (hw.without _).mono (by omega)⟩
   ·exact ⟨_, rfl, Keep.linked m _ _, OldK.linked m _ _, hw.linked _ _ (by omega)⟩
  obtain ⟨m2, e2, kk, oo, ww⟩ := hk1
  rw [e2] at b3
  refine moved_ra R (unl_wk hw _) h (fun _ => True) (fun _ _ _ _ _ _ => trivial) (fun _ _ => trivial) ?_ ?_ hx ht.hd ht.hk trivial trivial (fun i w f1 f2 f3 _ => ?_) p2 q2 hun2
  ·rw [b3]
   intro d x f1 f2 _
   obtain ⟨x3, a1, a2, a3⟩ := kk.trans (Keep.named ww (m.findP p).1.d (m.findP p).1.m 0) d x f1 f2
   exact ⟨x3, a1, a2, fun nm q => a3 nm (by rintro (g | g); exact g; exact q g)⟩
  ·rw [b3]
   exact oo.trans (OldK.named _ _ _ _)
  ·rw [ht.hg] at f1
   have := (be4_inj hju (R.u _ _ f2).1).1 (Option.some.inj f1)
   rw [← this, ht.hi] at f2
   obtain rfl := Option.some.inj f2
   exact b1 f3
theorem nodup_le : ∀ {q L : List Int}, q.Nodup → (∀ i ∈ q, i ∈ L) → q.length ≤ L.length
 | [], _, _, _ => Nat.zero_le _
 | a :: r, L, h, hs => by
  have h2 := List.nodup_cons.1 h
  have ha := hs a List.mem_cons_self
  have ih := nodup_le (L := L.erase a) h2.2 fun i hi => (List.mem_erase_of_ne (fun e => h2.1 (by rw [← e]; exact hi))).2 (hs i (List.mem_cons_of_mem _ hi))
  rw [List.length_erase_of_mem ha] at ih
  have : 0 < L.length := List.length_pos_of_mem ha
  rw [List.length_cons]; omega
def allI (l : List KV) : List Int := (l.filter fun y => y.1.headD 0 == 73).map fun y => gF y.1 1
theorem gF_kH {c j : Int} (r : List UInt8) (hj : U32 j) : gF (keyH c j ++ r) 1 = j := by
 unfold gF keyH
 show beV (((beB 4 j ++ r)).take 4) = j
 rw [List.take_append_of_le_length (by rw [beB_len]; omega), List.take_of_length_le (by rw [beB_len]; omega)]
 exact beV_be4 j hj
def subD (m : MF) (d : Int) (l : List KV) : Nat := l.countP fun y => y.1.headD 0 == 69 && (gF y.1 1 == d) && (m.kind (beV y.2) == 2)
def cntA (n : Nat) : Option AV := if n = 0 then none else some (.int .i64 n)
abbrev Mp := List (Int × AV)
structure TI (m : MF) (l : List KV) (E B P : Mp) : Prop where
 e : ∀ j, U32 j → mget j E = cntA (refs j l)
 b : ∀ d, U32 d → mget d B = cntA (subD m d l)
 p : ∀ y ∈ l, y.1.headD 0 = 69 → m.kind (beV y.2) = 2 → mget (beV y.2) P = some (.int .u32 (gF y.1 1))
 eo : ∀ r ∈ E, plOk r.2 = true
 bo : ∀ r ∈ B, plOk r.2 = true
 po : ∀ r ∈ P, plOk r.2 = true
theorem TI.new (m : MF) : TI m [] [] [] [] := ⟨fun _ _ => rfl, fun _ _ => rfl, by simp, by simp, by simp, by simp⟩
theorem refs_app (j : Int) (l : List KV) (y : KV) : refs j (l ++ [y]) = refs j l + if refB j y = true then 1 else 0 := by
 unfold refs; rw [List.countP_append, List.countP_singleton]
theorem subD_app (m : MF) (d : Int) (l : List KV) (y : KV) : subD m d (l ++ [y]) = subD m d l + if (y.1.headD 0 == 69 && (gF y.1 1 == d) && (m.kind (beV y.2) == 2)) = true then 1 else 0 := by
 unfold subD; rw [List.countP_append, List.countP_singleton]
theorem TI.other {m : MF} {l : List KV} {E B P : Mp} (h : TI m l E B P) {y : KV} (hy : (y.1.headD 0 == 69) = false) : TI m (l ++ [y]) E B P := by
 refine ⟨fun j hj => ?_, fun d hd => ?_, fun z hz h1 h2 => ?_, h.eo, h.bo, h.po⟩
 ·rw [refs_app, if_neg (by unfold refB; rw [hy]; simp)]; exact h.e j hj
 ·rw [subD_app, if_neg (by rw [hy]; simp)]; exact h.b d hd
 ·rcases List.mem_append.1 hz with hz | hz
  ·exact h.p z hz h1 h2
  ·rw [List.mem_singleton] at hz
   subst hz
   rw [h1] at hy; simp at hy
theorem TI.file {m : MF} {l : List KV} {E B P : Mp} (h : TI m l E B P) {d k : Int} {nm : List UInt8} (hku : U32 k) (hk : m.kind k ≠ 2) : TI m (l ++ [(keyH 69 d ++ nm, beB 4 k)]) (mput k (.int .i64 ((refs k l : Int) + 1)) E) B P := by
 have hb : beV (beB 4 k) = k := beV_be4 k hku
 refine ⟨fun j hj => ?_, fun d' hd' => ?_, fun z hz h1 h2 => ?_, fun r hr => ?_, h.bo, h.po⟩
 ·rw [mget_mput, refs_app, refB_ent]
  by_cases e : j = k
  ·subst e
   rw [if_pos rfl, if_pos (by simp)]
   unfold cntA
   rw [if_neg (by omega)]; rfl
  ·rw [if_neg e, if_neg (by simp; intro q; exact e ((be4_inj hku hj).1 q).symm)]
   exact h.e j hj
 ·rw [subD_app, if_neg (by dsimp only; rw [hb]; simp [hk])]; exact h.b d' hd'
 ·rcases List.mem_append.1 hz with hz | hz
  ·exact h.p z hz h1 h2
  ·rw [List.mem_singleton] at hz
   subst hz
   dsimp only at h2
   rw [hb] at h2; exact absurd h2 hk
 ·rcases mput_mem hr with rfl | hr
  ·rfl
  ·exact h.eo r hr
theorem TI.dir {m : MF} {l : List KV} {E B P : Mp} (h : TI m l E B P) {d k : Int} {nm : List UInt8} (hdu : U32 d) (hku : U32 k) (hk : m.kind k = 2) (hno : ∀ z ∈ l, z.1.headD 0 = 69 → beV z.2 ≠ k) : TI m (l ++ [(keyH 69 d ++ nm, beB 4 k)]) (mput k (.int .i64 ((refs k l : Int) + 1)) E) (mput d (.int .i64 ((subD m d l : Int) + 1)) B) (mput k (.int .u32 d) P) := by
 have hb : beV (beB 4 k) = k := beV_be4 k hku
 refine ⟨fun j hj => ?_, fun d' hd' => ?_, fun z hz h1 h2 => ?_, fun r hr => ?_, fun r hr => ?_, fun r hr => ?_⟩
 ·rw [mget_mput, refs_app, refB_ent]
  by_cases e : j = k
  ·subst e
   rw [if_pos rfl, if_pos (by simp)]
   unfold cntA
   rw [if_neg (by omega)]; rfl
  ·rw [if_neg e, if_neg (by simp; intro q; exact e ((be4_inj hku hj).1 q).symm)]
   exact h.e j hj
 ·rw [mget_mput, subD_app]
  dsimp only
  rw [head_key, gF_kH nm hdu, hb, hk]
  by_cases e : d' = d
  ·subst e
   rw [if_pos rfl, if_pos (by simp)]
   unfold cntA
   rw [if_neg (by omega)]; rfl
  ·rw [if_neg e, if_neg (by simp; intro q; exact absurd q.symm e)]
   exact h.b d' hd'
 ·rw [mget_mput]
  rcases List.mem_append.1 hz with hz | hz
  ·rw [if_neg (hno z hz h1)]
   exact h.p z hz h1 h2
  ·rw [List.mem_singleton] at hz
   subst hz
   dsimp only
   rw [hb, if_pos rfl, gF_kH nm hdu]
 ·rcases mput_mem hr with rfl | hr
  ·rfl
  ·exact h.eo r hr
 ·rcases mput_mem hr with rfl | hr
  ·rfl
  ·exact h.bo r hr
 ·rcases mput_mem hr with rfl | hr
  ·rfl
  ·exact h.po r hr
def ldT (t : Tr) (j : Int) : Option Nd := ndOf j (t.get (keyH 73 j))
def isDT (t : Tr) (j : Int) : Bool := match ldT t j with
 | some x => x.1 == 2
 | none => false
def cdT (t : Tr) (d : Int) (nm : List UInt8) : Option Int := chOf (t.get (entryK d nm))
def entT (t : Tr) (y : KV) : Option (Int × Int) := if (splitK y.1).1 = 69 then (cdT t (splitK y.1).2.1 (splitK y.1).2.2.1).map fun i => ((splitK y.1).2.1, i) else none
abbrev EL := List (Int × Int)
def entsT (t : Tr) (l : List KV) : EL := l.filterMap (entT t)
def cntE (L : EL) (j : Int) : Nat := L.countP fun p => p.2 == j
def dirE (L : EL) (j : Int) : Int := L.foldl (fun a p => if p.2 = j then p.1 else a) 0
def subE (t : Tr) (L : EL) (d : Int) : Nat := L.countP fun p => (p.1 == d) && isDT t p.2
def blockF (t : Tr) (j n : Int) (s : List UInt8) : Int := match ldT t j with
 | none => 2
 | some x => if x.1 ≠ 1 then 2 else if n * 64 ≥ x.2.2.1 then 2 else if s = [] ∨ (s.length : Int) > 64 ∨ s.getLast? = some 0 ∨ n * 64 + (s.length : Int) > x.2.2.1 then 2 else 0
def entryF (t : Tr) (d : Int) (nm : List UInt8) : Int := if isDT t d = false then 3 else if nameB nm = false then 4 else match cdT t d nm with
 | some i => if (ldT t i).isSome then 0 else 5
 | none => 5
def adF (t : Tr) : Nat → Int → List Int → Bool
 | 0, _, _ => true
 | n + 1, j, q => if j = 1 then false else match ldT t j with
  | none => true
  | some x => if x.1 ≠ 2 then true else if j ∈ q then true else adF t n x.2.2.2 (j :: q)
def inodeF (t : Tr) (L : EL) (j : Int) : Int := match ldT t j with
 | none => 6
 | some x => if x.1 = 1 then (if x.2.1 ≠ (cntE L j : Int) then 7 else 0) else
  if (if j = 1 then 0 < cntE L j else cntE L j ≠ 1) then 8 else if x.2.1 ≠ 2 + (subE t L j : Int) then 7 else if x.2.2.2 ≠ (if j = 1 then 1 else dirE L j) then 9 else if j = 1 then 0 else if adF t (t.size + 2) j [] = true then 10 else 0
def faultF (t : Tr) (L : EL) (y : KV) : Int := if (splitK y.1).1 = 68 then blockF t (splitK y.1).2.1 (splitK y.1).2.2.2 y.2 else if (splitK y.1).1 = 69 then entryF t (splitK y.1).2.1 (splitK y.1).2.2.1 else if (splitK y.1).1 = 73 then inodeF t L (splitK y.1).2.1 else 1
def rootT (t : Tr) : Tr := if (t.get (keyH 73 1)).isSome then t else t.set (keyH 73 1) (nodeB 2 2 0 1)
def fltsF (t : Tr) (L : EL) (l : List KV) : List (Int × List UInt8) := l.filterMap fun y => if faultF t L y = 0 then none else some (faultF t L y, y.1)
def chkF (t : Tr) : List (Int × List UInt8) := fltsF t (entsT t t.row) (rootT t).row
theorem cntE_app (L : EL) (p : Int × Int) (j : Int) : cntE (L ++ [p]) j = cntE L j + if p.2 = j then 1 else 0 := by
 unfold cntE
 rw [List.countP_append, List.countP_singleton]
 by_cases e : p.2 = j <;> simp [e]
theorem dirE_app (L : EL) (p : Int × Int) (j : Int) : dirE (L ++ [p]) j = if p.2 = j then p.1 else dirE L j := by
 unfold dirE
 rw [List.foldl_append]; rfl
theorem subE_app (t : Tr) (L : EL) (p : Int × Int) (d : Int) : subE t (L ++ [p]) d = subE t L d + if p.1 = d ∧ isDT t p.2 = true then 1 else 0 := by
 unfold subE
 rw [List.countP_append, List.countP_singleton]
 by_cases e : p.1 = d <;> by_cases e2 : isDT t p.2 = true <;> simp [e, e2]
structure GI (t : Tr) (L : EL) (E B : Mp) : Prop where
 e : ∀ j, (mget j E).getD (.agg [.int .i64 0, .int .u32 0]) = .agg [.int .i64 (cntE L j), .int .u32 (dirE L j)]
 b : ∀ d, (mget d B).getD (.int .i64 0) = .int .i64 (subE t L d)
 eo : ∀ r ∈ E, plOk r.2 = true
 bo : ∀ r ∈ B, plOk r.2 = true
theorem GI.new (t : Tr) : GI t [] [] [] := ⟨fun _ => rfl, fun _ => rfl, by simp, by simp⟩
theorem GI.file {t : Tr} {L : EL} {E B : Mp} (h : GI t L E B) {d i : Int} (hi : isDT t i = false) : GI t (L ++ [(d, i)]) (mput i (.agg [.int .i64 (cntE L i + 1), .int .u32 d]) E) B := by
 refine ⟨fun j => ?_, fun d' => ?_, fun r hr => ?_, h.bo⟩
 ·rw [mget_mput, cntE_app, dirE_app]
  by_cases e : j = i
  ·subst e
   rw [if_pos rfl, if_pos rfl, if_pos rfl]; rfl
  ·rw [if_neg e, if_neg (fun q => e q.symm), if_neg (fun q => e q.symm)]
   exact h.e j
 ·rw [subE_app, if_neg (by dsimp only; rw [hi]; simp)]; exact h.b d'
 ·rcases mput_mem hr with rfl | hr
  ·rfl
  ·exact h.eo r hr
theorem GI.dir {t : Tr} {L : EL} {E B : Mp} (h : GI t L E B) {d i : Int} (hi : isDT t i = true) : GI t (L ++ [(d, i)]) (mput i (.agg [.int .i64 (cntE L i + 1), .int .u32 d]) E) (mput d (.int .i64 (subE t L d + 1)) B) := by
 refine ⟨fun j => ?_, fun d' => ?_, fun r hr => ?_, fun r hr => ?_⟩
 ·rw [mget_mput, cntE_app, dirE_app]
  by_cases e : j = i
  ·subst e
   rw [if_pos rfl, if_pos rfl, if_pos rfl]; rfl
  ·rw [if_neg e, if_neg (fun q => e q.symm), if_neg (fun q => e q.symm)]
   exact h.e j
 ·rw [mget_mput, subE_app]
  dsimp only
  by_cases e : d' = d
  ·subst e
   rw [if_pos rfl, if_pos ⟨rfl, hi⟩]; rfl
  ·rw [if_neg e, if_neg (fun q => e q.1.symm)]
   exact h.b d'
 ·rcases mput_mem hr with rfl | hr
  ·rfl
  ·exact h.eo r hr
 ·rcases mput_mem hr with rfl | hr
  ·rfl
  ·exact h.bo r hr
theorem entsT_take {t : Tr} {l : List KV} {i : Nat} {y : KV} (h : l[i]? = some y) : entsT t (l.take (i + 1)) = entsT t (l.take i) ++ (match entT t y with | some p => [p] | none => []) := by
 unfold entsT
 rw [List.take_add_one, h, List.filterMap_append]
 congr 1
 show List.filterMap _ [y] = _
 cases he : entT t y with
 | none => rw [List.filterMap_cons_none he]; rfl
 | some p => rw [List.filterMap_cons_some he]; rfl
theorem fltsF_take {t : Tr} {L : EL} {l : List KV} {i : Nat} {y : KV} (h : l[i]? = some y) : fltsF t L (l.take (i + 1)) = fltsF t L (l.take i) ++ (if faultF t L y = 0 then [] else [(faultF t L y, y.1)]) := by
 unfold fltsF
 rw [List.take_add_one, h, List.filterMap_append]
 congr 1
 show List.filterMap _ [y] = _
 by_cases he : faultF t L y = 0
 ·rw [List.filterMap_cons_none (by rw [if_pos he]), if_pos he]; rfl
 ·rw [List.filterMap_cons_some (by rw [if_neg he]), if_neg he]; rfl
theorem entsT_len (t : Tr) (l : List KV) : (entsT t l).length ≤ l.length := List.length_filterMap_le _ _
theorem cntE_le (L : EL) (j : Int) : cntE L j ≤ L.length := List.countP_le_length
theorem subE_le (t : Tr) (L : EL) (d : Int) : subE t L d ≤ L.length := List.countP_le_length
theorem dirE_u {L : EL} (h : ∀ p ∈ L, U32 p.1) (j : Int) : U32 (dirE L j) := by
 unfold dirE
 have key : ∀ (L : EL) (a : Int), U32 a → (∀ p ∈ L, U32 p.1) → U32 (L.foldl (fun a p => if p.2 = j then p.1 else a) a) := by
  intro L
  induction L with
  | nil => intro a ha _; exact ha
  | cons p r ih =>
   intro a ha hp
   refine ih _ ?_ fun q hq => hp q (by simp [hq])
   show U32 (if p.2 = j then p.1 else a)
   split
   ·exact hp p (by simp)
   ·exact ha
 exact key L 0 (by decide) h
theorem ldT_ok {t : Tr} {j : Int} {x : Nd} (h : ldT t j = some x) : Nd.ok x := by
 unfold ldT ndOf at h
 split at h
 ·split at h
  ·obtain rfl := Option.some.inj h
   exact ⟨by decide, by decide, by decide, by decide⟩
  ·cases h
 ·exact getNode_ok h
theorem ldT_in {t : Tr} (ht : Rises t.row) {j : Int} (hj : U32 j) {x : Nd} (h : ldT t j = some x) (h1 : j ≠ 1) : j ∈ allI t.row := by
 unfold ldT at h
 rw [get_row _ _ ht] at h
 cases hg : lget (keyH 73 j) t.row with
 | none =>
  rw [hg] at h
  unfold ndOf at h
  dsimp only at h
  rw [if_neg h1] at h; cases h
 | some v =>
  refine List.mem_map.2 ⟨(keyH 73 j, v), List.mem_filter.2 ⟨(lget_some ht).1 hg, rfl⟩, ?_⟩
  have := gF_kH (c := 73) [] hj
  rwa [List.append_nil] at this
theorem allI_le (l : List KV) : (allI l).length ≤ l.length := by
 unfold allI
 rw [List.length_map]
 exact List.length_filter_le _ _
theorem splitK_u (l : List UInt8) : U32 (splitK l).2.1 ∧ 0 ≤ (splitK l).2.2.2 ∧ (splitK l).2.2.2 ≤ 65535 := by
 have h0 : U32 0 := by decide
 unfold splitK
 split
 ·exact ⟨h0, Int.le_refl _, by decide⟩
 split
 ·exact ⟨gF_bd l 1, Int.le_refl _, show (0 : Int) ≤ 65535 by decide⟩
 split
 ·exact ⟨gF_bd l 1, Int.le_refl _, show (0 : Int) ≤ 65535 by decide⟩
 split
 ·rename_i h
  have hb := beV_bound (l.drop 5)
  rw [h.2] at hb
  exact ⟨gF_bd l 1, hb.1, by dsimp only; omega⟩
 ·exact ⟨h0, Int.le_refl _, by decide⟩
set_option maxHeartbeats 4000000 in
theorem wloadL_spec {s : VS} {m : Nat} (h : VJ s m) (hm : m ≤ 100000000000) (n : Int) (hn : 0 ≤ n ∧ n ≤ 4294967295) : Con Tryz.prog 164 [vP, .p (.int .u32 n)] (vH s) (nodeT (s.load n)) (vH (s.rd (keyH 73 n))) [] := by
 have c1 := kinode_spec n hn []
 have c2 := vget_spec s (keyH 73 n) (by have := h.zr; unfold big40; omega)
 have hl := h.len0 (keyH 73 n)
 rw [getT_tup] at c2
 change Con Tryz.prog _ _ _ _ (vH (s.rd (keyH 73 n))) _ at c2
 unfold VS.load
 generalize s.shown.get (keyH 73 n) = g at c2 hl
 generalize s.rd (keyH 73 n) = s' at c2
 cases g with
 | none =>
  by_cases h1 : n = 1
  ·subst h1
   have cr := root_spec []
   show Con _ _ _ _ (nodeT (some (2, 2, 0, 1))) _ _
   refine con_of Tryz.func164 rfl (by kernel_rfl) rfl fun F w0 β0 => ?_
   refine K_tell rfl ?_
   refine go ?_
   refine K_op rfl rfl (opr_callP rfl rfl (c1) rfl rfl rfl rfl) rfl ?_
   refine go ?_
   refine K_op rfl rfl (opr_callS [.o 0, .o 1] rfl rfl (c2) rfl rfl rfl ⟨⟨rfl, rfl⟩, ⟨rfl, rfl⟩, trivial⟩ rfl rfl rfl rfl) rfl ?_
   refine go ?_
   refine K_op rfl rfl (opr_callP rfl rfl (cr) rfl rfl rfl rfl) rfl ?_
   refine go ?_
   exact J_done hT rfl rfl rfl
  ·have c3 := nget_spec [] (by decide)
   rw [nodeT_tup] at c3
   have e : nodeT (ndOf n none) = .tup [ndT (0, 0, 0, 0), .p (.bool false)] := by
    show nodeT (if n = 1 then _ else _) = _
    rw [if_neg h1]; rfl
   rw [e]
   refine con_of Tryz.func164 rfl (by kernel_rfl) rfl fun F w0 β0 => ?_
   refine K_tell rfl ?_
   refine go ?_
   refine K_op rfl rfl (opr_callP rfl rfl (c1) rfl rfl rfl rfl) rfl ?_
   refine go ?_
   refine K_op rfl rfl (opr_callS [.o 0, .o 1] rfl rfl (c2) rfl rfl rfl ⟨⟨rfl, rfl⟩, ⟨rfl, rfl⟩, trivial⟩ rfl rfl rfl rfl) rfl ?_
   refine go ?_
   refine K_condF rfl (by simp [h1]) ?_
   refine go ?_
   refine K_op rfl rfl (opr_callP rfl rfl (c3) rfl rfl rfl rfl) rfl ?_
   refine go ?_
   exact J_done hT rfl rfl rfl
 | some v =>
  have c3 := nget_spec v (by dsimp only [Option.getD] at hl; omega)
  rw [nodeT_tup] at c3
  show Con _ _ _ _ (nodeT (getNode v)) _ _
  rw [nodeT_tup]
  generalize getNode v = g at c3
  refine con_of Tryz.func164 rfl (by kernel_rfl) rfl fun F w0 β0 => ?_
  refine K_tell rfl ?_
  refine go ?_
  refine K_op rfl rfl (opr_callP rfl rfl (c1) rfl rfl rfl rfl) rfl ?_
  refine go ?_
  refine K_op rfl rfl (opr_callS [.o 0, .o 1] rfl rfl (c2) rfl rfl rfl ⟨⟨rfl, rfl⟩, ⟨rfl, rfl⟩, trivial⟩ rfl rfl rfl rfl) rfl ?_
  refine go ?_
  refine K_op rfl rfl (opr_callP rfl rfl (c3) rfl rfl rfl rfl) rfl ?_
  refine go ?_
  exact J_done hT rfl rfl rfl
set_option maxHeartbeats 4000000 in
theorem wchildL_spec {s : VS} {m : Nat} (h : VJ s m) (hm : m ≤ 100000000000) (n : Int) (hn : 0 ≤ n ∧ n ≤ 4294967295) (x : List UInt8) : Con Tryz.prog 134 [vP, .p (.int .u32 n), .p (.str x)] (vH s) (chT (s.child n x)) (vH (s.rd (entryK n x))) [] := by
 have c1 := kentry_spec n x hn []
 have c2 := vget_spec s (entryK n x) (by have := h.zr; unfold big40; omega)
 have hl := h.len0 (entryK n x)
 rw [getT_tup] at c2
 change Con Tryz.prog _ _ _ _ (vH (s.rd (entryK n x))) _ at c2
 unfold VS.child chOf
 generalize s.shown.get (entryK n x) = g at c2 hl
 generalize s.rd (entryK n x) = s' at c2
 generalize g.getD [] = v at c2 hl
 generalize g.isSome = b at c2
 have c3 := get_spec (.ps v) 0 4 (by decide) (by omega) []
 rw [show (wide 4).toNat = 4 by decide] at c3
 by_cases h4 : v.length < 4
 ·have e : getR v 0 4 = (0, 0, 3) := by unfold getR; rw [if_neg (by omega), if_pos (by omega)]
  rw [e] at c3
  change Con Tryz.prog _ _ _ (.tup [.p (.int .u64 0), .p (.int .i64 0), .p (.int .i64 3)]) _ _ at c3
  rw [if_neg (by omega)]
  refine con_of Tryz.func134 rfl (by kernel_rfl) rfl fun F w0 β0 => ?_
  refine K_tell rfl ?_
  refine go ?_
  refine K_op rfl rfl (opr_callP rfl rfl (c1) rfl rfl rfl rfl) rfl ?_
  refine go ?_
  refine K_op rfl rfl (opr_callS [.o 0, .o 1] rfl rfl (c2) rfl rfl rfl ⟨⟨rfl, rfl⟩, ⟨rfl, rfl⟩, trivial⟩ rfl rfl rfl rfl) rfl ?_
  refine go ?_
  refine K_op rfl rfl (opr_callP rfl rfl (c3) rfl rfl rfl rfl) rfl ?_
  refine go ?_
  exact J_done hT rfl rfl rfl
 ·have e : getR v 0 4 = (gF v 0, 4, 0) := by unfold getR gF; rw [if_neg (by omega), if_neg (by omega)]; rfl
  rw [e] at c3
  change Con Tryz.prog _ _ _ (.tup [.p (.int .u64 (gF v 0)), .p (.int .i64 4), .p (.int .i64 0)]) _ _ at c3
  by_cases h5 : v.length = 4
  ·rw [if_pos h5]
   refine con_of Tryz.func134 rfl (by kernel_rfl) rfl fun F w0 β0 => ?_
   refine K_tell rfl ?_
   refine go ?_
   refine K_op rfl rfl (opr_callP rfl rfl (c1) rfl rfl rfl rfl) rfl ?_
   refine go ?_
   refine K_op rfl rfl (opr_callS [.o 0, .o 1] rfl rfl (c2) rfl rfl rfl ⟨⟨rfl, rfl⟩, ⟨rfl, rfl⟩, trivial⟩ rfl rfl rfl rfl) rfl ?_
   refine go ?_
   refine K_op rfl rfl (opr_callP rfl rfl (c3) rfl rfl rfl rfl) rfl ?_
   refine go ?_
   refine K_condF rfl (by simp [h5]) ?_
   refine go ?_
   refine J_val 6 _ rfl (congrArg (fun z => TV.p (.int .u32 z)) (u32_in _ (gF_bd v 0))) ?_
   exact J_done hT rfl rfl rfl
  ·rw [if_neg h5]
   refine con_of Tryz.func134 rfl (by kernel_rfl) rfl fun F w0 β0 => ?_
   refine K_tell rfl ?_
   refine go ?_
   refine K_op rfl rfl (opr_callP rfl rfl (c1) rfl rfl rfl rfl) rfl ?_
   refine go ?_
   refine K_op rfl rfl (opr_callS [.o 0, .o 1] rfl rfl (c2) rfl rfl rfl ⟨⟨rfl, rfl⟩, ⟨rfl, rfl⟩, trivial⟩ rfl rfl rfl rfl) rfl ?_
   refine go ?_
   refine K_op rfl rfl (opr_callP rfl rfl (c3) rfl rfl rfl rfl) rfl ?_
   refine go ?_
   refine K_condT rfl (by simp; omega) ?_
   refine go ?_
   exact J_done hT rfl rfl rfl
abbrev bokB (a b c : Hd) : AObj := .box 185 [.ad a 0, .ad b 0, .ad c 0]
abbrev bkH (s : VS) (E B : Mp) : List AObj := [bokB (.o 1) (.o 3) (.o 4), vB (.o 2) s.base s.shown s.writes s.reads s.ranges.length, vR s.ranges, mpO (AV.int .u32) E, mpO (AV.int .u32) B]
abbrev bkP : TV := .ad (.o 0) 0
set_option maxHeartbeats 4000000 in
theorem bdir_spec {s : VS} {m : Nat} (h : VJ s m) (hm : m ≤ 100000000000) (j : Int) (hj : U32 j) (E B : Mp) : Con Tryz.prog 135 [bkP, .p (.int .u32 j)] (bkH s E B) (.p (.bool (isDT s.shown j))) (bkH (s.rd (keyH 73 j)) E B) [] := by
 have c1 := wloadL_spec h hm j hj
 rw [nodeT_tup] at c1
 unfold isDT
 have e : s.load j = ldT s.shown j := rfl
 rw [e] at c1
 generalize ldT s.shown j = g at c1
 generalize s.rd (keyH 73 j) = s' at c1
 cases g with
 | none =>
  refine con_of Tryz.func135 rfl (by kernel_rfl) rfl fun F w0 β0 => ?_
  refine K_tell rfl ?_
  refine go ?_
  refine K_op rfl rfl (opr_callS [.o 1, .o 2] rfl rfl (c1) rfl rfl rfl ⟨⟨rfl, rfl⟩, ⟨rfl, rfl⟩, trivial⟩ rfl rfl rfl rfl) rfl ?_
  refine go ?_
  exact J_done hT rfl rfl rfl
 | some x =>
  obtain ⟨k, a, b, c⟩ := x
  change Con Tryz.prog _ _ _ (.tup [.agg [.p (.int .u8 k), .p (.int .u32 a), .p (.int .u32 b), .p (.int .u32 c)], .p (.bool true)]) _ _ at c1
  refine con_of Tryz.func135 rfl (by kernel_rfl) rfl fun F w0 β0 => ?_
  refine K_tell rfl ?_
  refine go ?_
  refine K_op rfl rfl (opr_callS [.o 1, .o 2] rfl rfl (c1) rfl rfl rfl ⟨⟨rfl, rfl⟩, ⟨rfl, rfl⟩, trivial⟩ rfl rfl rfl rfl) rfl ?_
  refine go ?_
  exact J_done hT rfl rfl rfl
theorem lacks_spec (s : VS) (k : List UInt8) (E B : Mp) : Con Tryz.prog 108 [bkP, .p (.str k)] (bkH s E B) (.p (.bool !(s.shown.get k).isSome)) (bkH s E B) [] := by
 have c1 := vlook_spec s k
 rw [getT_tup] at c1
 refine con_of Tryz.func108 rfl (by kernel_rfl) rfl fun F w0 β0 => ?_
 refine K_tell rfl ?_
 refine go ?_
 refine K_op rfl rfl (opr_callS [.o 1, .o 2] rfl rfl (c1) rfl rfl rfl ⟨⟨rfl, rfl⟩, ⟨rfl, rfl⟩, trivial⟩ rfl rfl rfl rfl) rfl ?_
 refine go ?_
 exact J_done hT rfl rfl rfl
set_option maxHeartbeats 16000000 in
theorem blockF_spec {s : VS} {m : Nat} (h : VJ s m) (hm : m ≤ 100000000000) (j : Int) (hj : U32 j) (n : Int) (hn : 0 ≤ n ∧ n ≤ 65535) (v : List UInt8) (hv : v.length ≤ 100000) (E B : Mp) : Con Tryz.prog 140 [bkP, .p (.int .u32 j), .p (.int .i64 n), .p (.str v)] (bkH s E B) (.p (.int .u8 (blockF s.shown j n v))) (bkH (s.rd (keyH 73 j)) E B) [] := by
 have c1 := wloadL_spec h hm j hj
 rw [nodeT_tup] at c1
 have hok := fun x => @ldT_ok s.shown j x
 unfold blockF
 have e : s.load j = ldT s.shown j := rfl
 rw [e] at c1
 generalize ldT s.shown j = g at c1 hok
 generalize s.rd (keyH 73 j) = s' at c1
 cases g with
 | none =>
  refine con_of Tryz.func140 rfl (by kernel_rfl) rfl fun F w0 β0 => ?_
  refine K_tell rfl ?_
  refine go ?_
  refine K_op rfl rfl (opr_callS [.o 1, .o 2] rfl rfl (c1) rfl rfl rfl ⟨⟨rfl, rfl⟩, ⟨rfl, rfl⟩, trivial⟩ rfl rfl rfl rfl) rfl ?_
  refine go ?_
  exact J_done hT rfl rfl rfl
 | some x =>
  obtain ⟨k, a, z, c⟩ := x
  change Con Tryz.prog _ _ _ (.tup [.agg [.p (.int .u8 k), .p (.int .u32 a), .p (.int .u32 z), .p (.int .u32 c)], .p (.bool true)]) _ _ at c1
  have hz := (hok _ rfl).2.2.1
  dsimp only at hz ⊢
  have e1 : IntKind.i64.wrap (n * 64) = n * 64 := IntWalk.i64_in _ (by omega)
  have e2 : IntKind.i64.wrap z = z := IntWalk.i64_in _ (by omega)
  have e3 : IntKind.i64.wrap (n * 64 + (v.length : Int)) = n * 64 + (v.length : Int) := IntWalk.i64_in _ (by omega)
  by_cases k1 : k ≠ 1
  ·rw [if_pos k1]
   refine con_of Tryz.func140 rfl (by kernel_rfl) rfl fun F w0 β0 => ?_
   refine K_tell rfl ?_
   refine go ?_
   refine K_op rfl rfl (opr_callS [.o 1, .o 2] rfl rfl (c1) rfl rfl rfl ⟨⟨rfl, rfl⟩, ⟨rfl, rfl⟩, trivial⟩ rfl rfl rfl rfl) rfl ?_
   refine go ?_
   refine K_condT rfl (by simp [k1]) ?_
   refine go ?_
   exact J_done hT rfl rfl rfl
  rw [if_neg k1]
  have k1 : k = 1 := by simpa using k1
  by_cases k2 : n * 64 ≥ z
  ·rw [if_pos k2]
   refine con_of Tryz.func140 rfl (by kernel_rfl) rfl fun F w0 β0 => ?_
   refine K_tell rfl ?_
   refine go ?_
   refine K_op rfl rfl (opr_callS [.o 1, .o 2] rfl rfl (c1) rfl rfl rfl ⟨⟨rfl, rfl⟩, ⟨rfl, rfl⟩, trivial⟩ rfl rfl rfl rfl) rfl ?_
   refine go ?_
   refine K_condF rfl (by simp [k1]) ?_
   refine go ?_
   refine K_condT rfl (by rw [e1, e2]; exact decide_eq_true k2) ?_
   refine go ?_
   exact J_done hT rfl rfl rfl
  rw [if_neg k2]
  by_cases v0 : v = []
  ·rw [if_pos (.inl v0)]
   subst v0
   refine con_of Tryz.func140 rfl (by kernel_rfl) rfl fun F w0 β0 => ?_
   refine K_tell rfl ?_
   refine go ?_
   refine K_op rfl rfl (opr_callS [.o 1, .o 2] rfl rfl (c1) rfl rfl rfl ⟨⟨rfl, rfl⟩, ⟨rfl, rfl⟩, trivial⟩ rfl rfl rfl rfl) rfl ?_
   refine go ?_
   refine K_condF rfl (by simp [k1]) ?_
   refine go ?_
   refine K_condF rfl (by rw [e1, e2]; exact decide_eq_false k2) ?_
   refine go ?_
   exact J_done hT rfl rfl rfl
  by_cases v1 : (v.length : Int) > 64
  ·rw [if_pos (.inr (.inl v1))]
   refine con_of Tryz.func140 rfl (by kernel_rfl) rfl fun F w0 β0 => ?_
   refine K_tell rfl ?_
   refine go ?_
   refine K_op rfl rfl (opr_callS [.o 1, .o 2] rfl rfl (c1) rfl rfl rfl ⟨⟨rfl, rfl⟩, ⟨rfl, rfl⟩, trivial⟩ rfl rfl rfl rfl) rfl ?_
   refine go ?_
   refine K_condF rfl (by simp [k1]) ?_
   refine go ?_
   refine K_condF rfl (by rw [e1, e2]; exact decide_eq_false k2) ?_
   refine gx ?_
   refine J_false 38 rfl (by simpa using v0) ?_
   refine gx ?_
   refine J_true 43 rfl (decide_eq_true v1) ?_
   refine go ?_
   exact J_done hT rfl rfl rfl
  have hvl : 0 < v.length := List.length_pos_iff.2 v0
  have e4 : IntKind.i64.wrap ((v.length : Int) - 1) = ((v.length - 1 : Nat) : Int) := by rw [IntWalk.i64_in _ (by omega)]; omega
  obtain ⟨y, hy⟩ : ∃ y, v[v.length - 1]? = some y := ⟨_, List.getElem?_eq_getElem (by omega)⟩
  have hlast : v.getLast? = some y := by rw [List.getLast?_eq_getElem?, hy]
  have hyk : v[(((v.length - 1 : Nat) : Int)).toNat]? = some y := by rw [Int.toNat_natCast]; exact hy
  by_cases v2 : y = 0
  ·subst v2
   rw [if_pos (.inr (.inr (.inl hlast)))]
   refine con_of Tryz.func140 rfl (by kernel_rfl) rfl fun F w0 β0 => ?_
   refine K_tell rfl ?_
   refine go ?_
   refine K_op rfl rfl (opr_callS [.o 1, .o 2] rfl rfl (c1) rfl rfl rfl ⟨⟨rfl, rfl⟩, ⟨rfl, rfl⟩, trivial⟩ rfl rfl rfl rfl) rfl ?_
   refine go ?_
   refine K_condF rfl (by simp [k1]) ?_
   refine go ?_
   refine K_condF rfl (by rw [e1, e2]; exact decide_eq_false k2) ?_
   refine gx ?_
   refine J_false 38 rfl (by simpa using v0) ?_
   refine gx ?_
   refine J_false 43 rfl (decide_eq_false v1) ?_
   refine gx ?_
   rw [e4]
   refine K_yes rfl rfl rfl (opr_byte hT rfl rfl rfl rfl (by omega) hyk) rfl ?_
   refine gx ?_
   exact J_done hT rfl rfl rfl
  ·have hgo : (v = [] ∨ (v.length : Int) > 64 ∨ v.getLast? = some 0 ∨ n * 64 + (v.length : Int) > z) ↔ n * 64 + (v.length : Int) > z := by
    constructor
    ·rintro (q | q | q | q)
     ·exact absurd q v0
     ·exact absurd q v1
     ·rw [hlast] at q; exact absurd (Option.some.inj q) v2
     ·exact q
    ·exact fun q => .inr (.inr (.inr q))
   have hy0 : (y.toNat : Int) ≠ 0 := fun q => v2 (UInt8.toNat_inj.1 (by simpa using q))
   simp only [hgo]
   refine con_of Tryz.func140 rfl (by kernel_rfl) rfl fun F w0 β0 => ?_
   refine K_tell rfl ?_
   refine go ?_
   refine K_op rfl rfl (opr_callS [.o 1, .o 2] rfl rfl (c1) rfl rfl rfl ⟨⟨rfl, rfl⟩, ⟨rfl, rfl⟩, trivial⟩ rfl rfl rfl rfl) rfl ?_
   refine go ?_
   refine K_condF rfl (by simp [k1]) ?_
   refine go ?_
   refine K_condF rfl (by rw [e1, e2]; exact decide_eq_false k2) ?_
   refine gx ?_
   refine J_false 38 rfl (by simpa using v0) ?_
   refine gx ?_
   refine J_false 43 rfl (decide_eq_false v1) ?_
   refine gx ?_
   rw [e4]
   refine K_yes rfl rfl rfl (opr_byte hT rfl rfl rfl rfl (by omega) hyk) rfl ?_
   refine gx ?_
   refine J_false 51 rfl (by simpa using hy0) ?_
   refine go ?_
   rw [e1, e2, e3]
   by_cases v3 : n * 64 + (v.length : Int) > z
   ·rw [if_pos v3]
    refine K_condT rfl (decide_eq_true v3) ?_
    refine go ?_
    exact J_done hT rfl rfl rfl
   ·rw [if_neg v3]
    refine K_condF rfl (decide_eq_false v3) ?_
    refine go ?_
    exact J_done hT rfl rfl rfl
end Go.Proofs.YtdkegmmigongoaaGreatDoor
