/- Contracts and plain laws, several texts joined: RelW, RelX. -/
import Derived.Test.YtfnpelogfcnanaaGreatDoorGo
import Derived.Test.YtfnpelogfcnanaaGreatDoorM21
import Derived.Test.YtfnpelogfcnanaaGreatDoorM22
import Derived.Test.YtfnpelogfcnanaaGreatDoorM3
/- What the law DirsTree counts: entries, directories below, parents; up to the root. -/
-- @D
namespace Go.Proofs.YtfnpelogfcnanaaGreatDoor
set_option maxRecDepth 20000
open Go.Awp Tr
/-- A path's nodes. -/
theorem path_nodes {l : List KV} {m : MF} {par : Int → Int} (R : Rel l m par) {N : List (List UInt8)} {j : Int} (h : Reach m N j) : (∃ x, m.at j = some x ∧ x.k = 2) → ∃ q : List Int, q.length = N.length ∧ q.Nodup ∧ ∀ i ∈ q, i ≠ 1 ∧ (∃ x, m.at i = some x ∧ x.k = 2) ∧ ∃ M, M <+: N ∧ Reach m M i := by
  induction h with
  | nil => intro _; exact ⟨[], rfl, List.nodup_nil, by simp⟩
  | @snoc N d i xd x h hd hk hg hi ih =>
    intro ⟨z, hz, hzk⟩
    obtain ⟨q, q1, q2, q3⟩ := ih ⟨xd, hd, hk⟩
    have hi1 : i ≠ 1 := by
      obtain ⟨_, c, w, g1, g2, g3, _⟩ := R.nam _ _ hd _ _ hg
      rwa [(be4_inj hi (R.u c w g2).1).1 g1]
    refine ⟨q ++ [i], by rw [List.length_append, q1, List.length_append]; rfl, ?_, fun a ha => ?_⟩
    · rw [List.nodup_append]
      refine ⟨q2, by simp, fun a ha b hb => ?_⟩
      rw [List.mem_singleton] at hb
      subst hb
      intro e
      subst e
      obtain ⟨_, _, M, g1, g2⟩ := q3 a ha
      have e2 := reach_one R g2 (.snoc h hd hk hg hi) hz hzk
      have := g1.length_le
      rw [e2, List.length_append, List.length_singleton] at this
      omega
    · rcases List.mem_append.1 ha with ha | ha
      · obtain ⟨g1, g2, M, g3, g4⟩ := q3 a ha
        exact ⟨g1, g2, M, List.IsPrefix.trans g3 (List.prefix_append _ _), g4⟩
      · rw [List.mem_singleton] at ha
        subst ha
        exact ⟨hi1, ⟨z, hz, hzk⟩, _, List.prefix_refl _, .snoc h hd hk hg hi⟩
theorem nodup_le : ∀ {q L : List Int}, q.Nodup → (∀ i ∈ q, i ∈ L) → q.length ≤ L.length
  | [], _, _, _ => Nat.zero_le _
  | a :: r, L, h, hs => by
    have h2 := List.nodup_cons.1 h
    have ha := hs a List.mem_cons_self
    have ih := nodup_le (L := L.erase a) h2.2 fun i hi => (List.mem_erase_of_ne (fun e => h2.1 (by rw [← e]; exact hi))).2 (hs i (List.mem_cons_of_mem _ hi))
    rw [List.length_erase_of_mem ha] at ih
    have : 0 < L.length := List.length_pos_of_mem ha
    rw [List.length_cons]; omega
/-- The numbers of a row's inodes. -/
def allI (l : List KV) : List Int := (l.filter fun y => y.1.headD 0 == 73).map fun y => gF y.1 1
theorem gF_kH {c j : Int} (r : List UInt8) (hj : U32 j) : gF (keyH c j ++ r) 1 = j := by
  unfold gF keyH
  show beV (((beB 4 j ++ r)).take 4) = j
  rw [List.take_append_of_le_length (by rw [beB_len]; omega), List.take_of_length_le (by rw [beB_len]; omega)]
  exact beV_be4 j hj
theorem allI_mem {l : List KV} {m : MF} {par : Int → Int} (R : Rel l m par) {i : Int} {x : MN} (hx : m.at i = some x) (h1 : i ≠ 1) : i ∈ allI l := by
  have hn := R.nod i x hx
  cases hg : lget (keyH 73 i) l with
  | none =>
    rw [hg] at hn
    unfold ndOf at hn
    dsimp only at hn
    rw [if_neg h1] at hn; cases hn
  | some v =>
    refine List.mem_map.2 ⟨(keyH 73 i, v), List.mem_filter.2 ⟨(lget_some R.ri).1 hg, rfl⟩, ?_⟩
    have := gF_kH (c := 73) [] (R.u i x hx).1
    rwa [List.append_nil] at this
theorem path_le {l : List KV} {m : MF} {par : Int → Int} (R : Rel l m par) {N : List (List UInt8)} {j : Int} (h : Reach m N j) (hj : ∃ x, m.at j = some x ∧ x.k = 2) : N.length ≤ (allI l).length := by
  obtain ⟨q, q1, q2, q3⟩ := path_nodes R h hj
  rw [← q1]
  exact nodup_le q2 fun i hi => by
    obtain ⟨g1, ⟨x, g2, _⟩, _⟩ := q3 i hi
    exact allI_mem R g2 g1
/-- How many entries of a directory mean directories. -/
def subD (m : MF) (d : Int) (l : List KV) : Nat := l.countP fun y => y.1.headD 0 == 69 && (gF y.1 1 == d) && (m.kind (beV y.2) == 2)
theorem subD_eq {l : List KV} {m : MF} {par : Int → Int} (R : Rel l m par) {d : Int} {x : MN} (hx : m.at d = some x) : subD m d l = subsN m x.e := by
  unfold subsN
  rw [R.ent d x hx]
  unfold subD subL
  rw [List.countP_map, List.countP_filter]
  refine List.countP_congr fun y hy => ?_
  obtain ⟨c, j, r, hc, hj, hk⟩ := R.key y hy
  have hdu := (R.u d x hx).1
  have hc8 : L8 c := by unfold L8; omega
  have e1 : (decide (keyH 69 d <+: y.1)) = ((y.1.headD 0 == 69) && (gF y.1 1 == d)) := by
    rw [hk, head_key, gF_kH r hj, Bool.eq_iff_iff, decide_eq_true_eq, Bool.and_eq_true]
    constructor
    · rintro ⟨t, ht⟩
      obtain ⟨e1, e2, _⟩ := (key_iff L69 hc8 hdu hj).1 ht
      subst e1 e2
      exact ⟨rfl, by simp⟩
    · rintro ⟨e1, e2⟩
      obtain rfl := ofNat69 hc8 e1
      obtain rfl : j = d := by simpa using e2
      exact ⟨r, rfl⟩
  rw [e1]
  simp only [Function.comp]
  rw [Bool.and_comm]
/-- A number counted. -/
def cntA (n : Nat) : Option AV := if n = 0 then none else some (.int .i64 n)
theorem cntA_get (n : Nat) : (cntA n).getD (.int .i64 0) = .int .i64 n := by
  unfold cntA; split
  · rename_i e; rw [e]; rfl
  · rfl
abbrev Mp := List (Int × AV)
/-- What three maps tell of a row. -/
structure TI (m : MF) (l : List KV) (E B P : Mp) : Prop where
  e : ∀ j, U32 j → mget j E = cntA (refs j l)
  b : ∀ d, U32 d → mget d B = cntA (subD m d l)
  p : ∀ y ∈ l, y.1.headD 0 = 69 → m.kind (beV y.2) = 2 → mget (beV y.2) P = some (.int .u32 (gF y.1 1))
  eo : ∀ r ∈ E, plOk r.2 = true
  bo : ∀ r ∈ B, plOk r.2 = true
  po : ∀ r ∈ P, plOk r.2 = true
theorem TI.new (m : MF) : TI m [] [] [] [] := ⟨fun _ _ => rfl, fun _ _ => rfl, by simp, by simp, by simp, by simp⟩
theorem refs_app (j : Int) (l : List KV) (y : KV) : refs j (l ++ [y]) = refs j l + if refB j y = true then 1 else 0 := by
  unfold refs; rw [List.countP_append, List.countP_singleton]
theorem subD_app (m : MF) (d : Int) (l : List KV) (y : KV) : subD m d (l ++ [y]) = subD m d l + if (y.1.headD 0 == 69 && (gF y.1 1 == d) && (m.kind (beV y.2) == 2)) = true then 1 else 0 := by
  unfold subD; rw [List.countP_append, List.countP_singleton]
/-- A row's key that is no entry's. -/
theorem TI.other {m : MF} {l : List KV} {E B P : Mp} (h : TI m l E B P) {y : KV} (hy : (y.1.headD 0 == 69) = false) : TI m (l ++ [y]) E B P := by
  refine ⟨fun j hj => ?_, fun d hd => ?_, fun z hz h1 h2 => ?_, h.eo, h.bo, h.po⟩
  · rw [refs_app, if_neg (by unfold refB; rw [hy]; simp)]; exact h.e j hj
  · rw [subD_app, if_neg (by rw [hy]; simp)]; exact h.b d hd
  · rcases List.mem_append.1 hz with hz | hz
    · exact h.p z hz h1 h2
    · rw [List.mem_singleton] at hz
      subst hz
      rw [h1] at hy; simp at hy
/-- An entry that means a file. -/
theorem TI.file {m : MF} {l : List KV} {E B P : Mp} (h : TI m l E B P) {d k : Int} {nm : List UInt8} (hku : U32 k) (hk : m.kind k ≠ 2) : TI m (l ++ [(keyH 69 d ++ nm, beB 4 k)]) (mput k (.int .i64 ((refs k l : Int) + 1)) E) B P := by
  have hb : beV (beB 4 k) = k := beV_be4 k hku
  refine ⟨fun j hj => ?_, fun d' hd' => ?_, fun z hz h1 h2 => ?_, fun r hr => ?_, h.bo, h.po⟩
  · rw [mget_mput, refs_app, refB_ent]
    by_cases e : j = k
    · subst e
      rw [if_pos rfl, if_pos (by simp)]
      unfold cntA
      rw [if_neg (by omega)]; rfl
    · rw [if_neg e, if_neg (by simp; intro q; exact e ((be4_inj hku hj).1 q).symm)]
      exact h.e j hj
  · rw [subD_app, if_neg (by dsimp only; rw [hb]; simp [hk])]; exact h.b d' hd'
  · rcases List.mem_append.1 hz with hz | hz
    · exact h.p z hz h1 h2
    · rw [List.mem_singleton] at hz
      subst hz
      dsimp only at h2
      rw [hb] at h2; exact absurd h2 hk
  · rcases mput_mem hr with rfl | hr
    · rfl
    · exact h.eo r hr
/-- An entry that means a directory (of which there is but one). -/
theorem TI.dir {m : MF} {l : List KV} {E B P : Mp} (h : TI m l E B P) {d k : Int} {nm : List UInt8} (hdu : U32 d) (hku : U32 k) (hk : m.kind k = 2) (hno : ∀ z ∈ l, z.1.headD 0 = 69 → beV z.2 ≠ k) : TI m (l ++ [(keyH 69 d ++ nm, beB 4 k)]) (mput k (.int .i64 ((refs k l : Int) + 1)) E) (mput d (.int .i64 ((subD m d l : Int) + 1)) B) (mput k (.int .u32 d) P) := by
  have hb : beV (beB 4 k) = k := beV_be4 k hku
  refine ⟨fun j hj => ?_, fun d' hd' => ?_, fun z hz h1 h2 => ?_, fun r hr => ?_, fun r hr => ?_, fun r hr => ?_⟩
  · rw [mget_mput, refs_app, refB_ent]
    by_cases e : j = k
    · subst e
      rw [if_pos rfl, if_pos (by simp)]
      unfold cntA
      rw [if_neg (by omega)]; rfl
    · rw [if_neg e, if_neg (by simp; intro q; exact e ((be4_inj hku hj).1 q).symm)]
      exact h.e j hj
  · rw [mget_mput, subD_app]
    dsimp only
    rw [head_key, gF_kH nm hdu, hb, hk]
    by_cases e : d' = d
    · subst e
      rw [if_pos rfl, if_pos (by simp)]
      unfold cntA
      rw [if_neg (by omega)]; rfl
    · rw [if_neg e, if_neg (by simp; intro q; exact absurd q.symm e)]
      exact h.b d' hd'
  · rw [mget_mput]
    rcases List.mem_append.1 hz with hz | hz
    · rw [if_neg (hno z hz h1)]
      exact h.p z hz h1 h2
    · rw [List.mem_singleton] at hz
      subst hz
      dsimp only
      rw [hb, if_pos rfl, gF_kH nm hdu]
  · rcases mput_mem hr with rfl | hr
    · rfl
    · exact h.eo r hr
  · rcases mput_mem hr with rfl | hr
    · rfl
    · exact h.bo r hr
  · rcases mput_mem hr with rfl | hr
    · rfl
    · exact h.po r hr
end Go.Proofs.YtfnpelogfcnanaaGreatDoor

/- What a row's keys are split into. -/
-- @D
namespace Go.Proofs.YtfnpelogfcnanaaGreatDoor
set_option maxRecDepth 20000
open Go.Awp Tr
inductive SplR (m : MF) (y : KV) : Prop where
  | ino (j : Int) (x : MN) (hj : U32 j) (hk : y.1 = keyH 73 j) (hs : splitK y.1 = (73, j, [], 0)) (hx : m.at j = some x) : SplR m y
  | ent (j k : Int) (nm : List UInt8) (x z : MN) (hj : U32 j) (hku : U32 k) (hk : y.1 = keyH 69 j ++ nm) (hs : splitK y.1 = (69, j, nm, 0)) (hn : nameB nm = true) (hx : m.at j = some x) (hg : lget nm x.e = some (beB 4 k)) (hv : y.2 = beB 4 k) (hz : m.at k = some z) : SplR m y
  | blk (j i : Int) (hh : y.1.headD 0 = 68) (hs : splitK y.1 = (68, j, [], i)) : SplR m y
theorem drop5 (c j : Int) (r : List UInt8) : (keyH c j ++ r).drop 5 = r := by
  have h := keyH_len c j
  rw [List.drop_append_of_le_length (by omega), List.drop_of_length_le (by omega)]; rfl
theorem split_row {l : List KV} {m : MF} {par : Int → Int} (R : Rel l m par) {y : KV} (hy : y ∈ l) : SplR m y := by
  obtain ⟨c, j, r, hc, hj, hk⟩ := R.key y hy
  have hl5 : ¬ (keyH c j ++ r).length < 5 := by rw [List.length_append, keyH_len]; omega
  have hd := drop5 c j r
  have hg1 := gF_kH (c := c) r hj
  rcases hc with ⟨rfl, rfl⟩ | rfl | rfl
  · cases hm : m.at j with
    | none =>
      have h1 := R.non j hj hm
      rw [List.append_nil] at hk
      have h2 := (lget_some R.ri).2 (show (y.1, y.2) ∈ l from hy)
      rw [hk, h1] at h2; cases h2
    | some x =>
      refine .ino j x hj (by rw [hk]; simp) ?_ hm
      rw [hk]
      unfold splitK
      rw [if_neg hl5, if_pos ⟨rfl, hd⟩, hg1]
  · have hmem : (r, y.2) ∈ subL 69 j l := sub_mem.2 (by rw [← hk]; exact hy)
    cases hm : m.at j with
    | none => rw [R.eno j hj hm] at hmem; cases hmem
    | some x =>
      have hg : lget r x.e = some y.2 := by rw [R.ent j x hm]; exact (lget_some (sub_rises R.ri)).2 hmem
      obtain ⟨hn, k, z, g1, g2, _⟩ := R.nam j x hm r _ hg
      refine .ent j k r x z hj (R.u k z g2).1 hk ?_ hn hm (by rw [hg, g1]) g1 g2
      have hlen := nameB_len hn
      have hne : r ≠ [] := fun e => by rw [e] at hn; revert hn; decide
      rw [hk]
      unfold splitK
      rw [if_neg hl5, if_neg (by rw [hd]; exact fun q => hne q.2), if_pos (by rw [hd]; exact ⟨rfl, hne, hlen⟩), hd, hg1]
  · have hmem : (r, y.2) ∈ subL 68 j l := sub_mem.2 (by rw [← hk]; exact hy)
    cases hm : m.at j with
    | none => rw [R.bno j hj hm] at hmem; cases hmem
    | some x =>
      rw [R.blk j x hm] at hmem
      obtain ⟨i, _, _, g3⟩ := blkOf_mem hmem
      dsimp only at g3
      have hr2 : r.length = 2 := by rw [g3, beB_len]
      refine .blk j (beV r) (by rw [hk]; rfl) ?_
      rw [hk]
      unfold splitK
      have b0e : b0 (keyH 68 j ++ r) = 68 := rfl
      rw [if_neg hl5, b0e, if_neg (by omega), if_neg (by omega), if_pos ⟨rfl, by rw [hd]; exact hr2⟩, hd, hg1]
end Go.Proofs.YtfnpelogfcnanaaGreatDoor
