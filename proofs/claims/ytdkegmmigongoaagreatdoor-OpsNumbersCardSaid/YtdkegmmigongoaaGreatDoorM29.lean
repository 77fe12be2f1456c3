import Derived.Test.YtdkegmmigongoaaGreatDoorGo
import Derived.Test.YtdkegmmigongoaaGreatDoorM28
import Derived.Test.YtdkegmmigongoaaGreatDoorM27
import Derived.Test.YtdkegmmigongoaaGreatDoorM25
import Derived.Test.YtdkegmmigongoaaGreatDoorM8
import Derived.Test.YtdkegmmigongoaaGreatDoorM7
import Derived.Test.YtdkegmmigongoaaGreatDoorM26
namespace Go.Proofs.YtdkegmmigongoaaGreatDoor
set_option maxRecDepth 20000
open Go.Awp Tr
theorem how4_spec : Con Tryz.prog 40 [.p (.int .u8 4)] [] (.fn 70 []) [] [] := by
 refine con_of Tryz.func40 rfl (by kernel_rfl) rfl fun F w0 β0 => ?_
 refine K_tell rfl ?_
 refine go ?_
 exact J_done hT rfl rfl rfl
theorem how5_spec : Con Tryz.prog 40 [.p (.int .u8 5)] [] (.fn 71 []) [] [] := by
 refine con_of Tryz.func40 rfl (by kernel_rfl) rfl fun F w0 β0 => ?_
 refine K_tell rfl ?_
 refine go ?_
 exact J_done hT rfl rfl rfl
theorem how6_spec : Con Tryz.prog 40 [.p (.int .u8 6)] [] (.fn 72 []) [] [] := by
 refine con_of Tryz.func40 rfl (by kernel_rfl) rfl fun F w0 β0 => ?_
 refine K_tell rfl ?_
 refine go ?_
 exact J_done hT rfl rfl rfl
theorem how7_spec : Con Tryz.prog 40 [.p (.int .u8 7)] [] (.fn 73 []) [] [] := by
 refine con_of Tryz.func40 rfl (by kernel_rfl) rfl fun F w0 β0 => ?_
 refine K_tell rfl ?_
 refine go ?_
 exact J_done hT rfl rfl rfl
theorem how8_spec : Con Tryz.prog 40 [.p (.int .u8 8)] [] (.fn 74 []) [] [] := by
 refine con_of Tryz.func40 rfl (by kernel_rfl) rfl fun F w0 β0 => ?_
 refine K_tell rfl ?_
 refine go ?_
 exact J_done hT rfl rfl rfl
theorem how9_spec : Con Tryz.prog 40 [.p (.int .u8 9)] [] (.fn 75 []) [] [] := by
 refine con_of Tryz.func40 rfl (by kernel_rfl) rfl fun F w0 β0 => ?_
 refine K_tell rfl ?_
 refine go ?_
 exact J_done hT rfl rfl rfl
theorem how10_spec : Con Tryz.prog 40 [.p (.int .u8 10)] [] (.fn 76 []) [] [] := by
 refine con_of Tryz.func40 rfl (by kernel_rfl) rfl fun F w0 β0 => ?_
 refine K_tell rfl ?_
 refine go ?_
 exact J_done hT rfl rfl rfl
theorem how11_spec : Con Tryz.prog 40 [.p (.int .u8 11)] [] (.fn 77 []) [] [] := by
 refine con_of Tryz.func40 rfl (by kernel_rfl) rfl fun F w0 β0 => ?_
 refine K_tell rfl ?_
 refine go ?_
 exact J_done hT rfl rfl rfl
theorem how12_spec : Con Tryz.prog 40 [.p (.int .u8 12)] [] (.fn 78 []) [] [] := by
 refine con_of Tryz.func40 rfl (by kernel_rfl) rfl fun F w0 β0 => ?_
 refine K_tell rfl ?_
 refine go ?_
 exact J_done hT rfl rfl rfl
theorem how13_spec : Con Tryz.prog 40 [.p (.int .u8 13)] [] (.fn 79 []) [] [] := by
 refine con_of Tryz.func40 rfl (by kernel_rfl) rfl fun F w0 β0 => ?_
 refine K_tell rfl ?_
 refine go ?_
 exact J_done hT rfl rfl rfl
theorem how14_spec : Con Tryz.prog 40 [.p (.int .u8 14)] [] (.fn 80 []) [] [] := by
 refine con_of Tryz.func40 rfl (by kernel_rfl) rfl fun F w0 β0 => ?_
 refine K_tell rfl ?_
 refine go ?_
 exact J_done hT rfl rfl rfl
theorem how15_spec : Con Tryz.prog 40 [.p (.int .u8 15)] [] (.fn 81 []) [] [] := by
 refine con_of Tryz.func40 rfl (by kernel_rfl) rfl fun F w0 β0 => ?_
 refine K_tell rfl ?_
 refine go ?_
 exact J_done hT rfl rfl rfl
theorem how16_spec : Con Tryz.prog 40 [.p (.int .u8 16)] [] (.fn 82 []) [] [] := by
 refine con_of Tryz.func40 rfl (by kernel_rfl) rfl fun F w0 β0 => ?_
 refine K_tell rfl ?_
 refine go ?_
 exact J_done hT rfl rfl rfl
set_option maxHeartbeats 4000000 in
theorem howX_spec (k : Int) (hk : k < 4 ∨ 16 < k) : Con Tryz.prog 40 [.p (.int .u8 k)] [] (.fn 83 []) [] [] := by
 refine con_of Tryz.func40 rfl (by kernel_rfl) rfl fun F w0 β0 => ?_
 refine K_tell rfl ?_
 refine go ?_
 refine K_condF rfl (by simp; omega) ?_
 refine go ?_
 refine K_condF rfl (by simp; omega) ?_
 refine go ?_
 refine K_condF rfl (by simp; omega) ?_
 refine go ?_
 refine K_condF rfl (by simp; omega) ?_
 refine go ?_
 refine K_condF rfl (by simp; omega) ?_
 refine go ?_
 refine K_condF rfl (by simp; omega) ?_
 refine go ?_
 refine K_condF rfl (by simp; omega) ?_
 refine go ?_
 refine K_condF rfl (by simp; omega) ?_
 refine go ?_
 refine K_condF rfl (by simp; omega) ?_
 refine go ?_
 refine K_condF rfl (by simp; omega) ?_
 refine go ?_
 refine K_condF rfl (by simp; omega) ?_
 refine go ?_
 refine K_condF rfl (by simp; omega) ?_
 refine go ?_
 refine K_condF rfl (by simp; omega) ?_
 refine go ?_
 exact J_done hT rfl rfl rfl
theorem how_ok (k : Int) : ∃ f, Con Tryz.prog 40 [.p (.int .u8 k)] [] (.fn f []) [] [] ∧ ((k = 4 ∧ f = 70) ∨ (k = 5 ∧ f = 71) ∨ (k = 6 ∧ f = 72) ∨ (k = 7 ∧ f = 73) ∨ (k = 8 ∧ f = 74) ∨ (k = 9 ∧ f = 75) ∨ (k = 10 ∧ f = 76) ∨ (k = 11 ∧ f = 77) ∨ (k = 12 ∧ f = 78) ∨ (k = 13 ∧ f = 79) ∨ (k = 14 ∧ f = 80) ∨ (k = 15 ∧ f = 81) ∨ (k = 16 ∧ f = 82) ∨ ((k < 4 ∨ 16 < k) ∧ f = 83)) := by
 by_cases h4 : k = 4
 ·subst h4; exact ⟨_, how4_spec, .inl ⟨rfl, rfl⟩⟩
 by_cases h5 : k = 5
 ·subst h5; exact ⟨_, how5_spec, .inr (.inl ⟨rfl, rfl⟩)⟩
 by_cases h6 : k = 6
 ·subst h6; exact ⟨_, how6_spec, .inr (.inr (.inl ⟨rfl, rfl⟩))⟩
 by_cases h7 : k = 7
 ·subst h7; exact ⟨_, how7_spec, .inr (.inr (.inr (.inl ⟨rfl, rfl⟩)))⟩
 by_cases h8 : k = 8
 ·subst h8; exact ⟨_, how8_spec, .inr (.inr (.inr (.inr (.inl ⟨rfl, rfl⟩))))⟩
 by_cases h9 : k = 9
 ·subst h9; exact ⟨_, how9_spec, .inr (.inr (.inr (.inr (.inr (.inl ⟨rfl, rfl⟩)))))⟩
 by_cases h10 : k = 10
 ·subst h10; exact ⟨_, how10_spec, .inr (.inr (.inr (.inr (.inr (.inr (.inl ⟨rfl, rfl⟩))))))⟩
 by_cases h11 : k = 11
 ·subst h11; exact ⟨_, how11_spec, .inr (.inr (.inr (.inr (.inr (.inr (.inr (.inl ⟨rfl, rfl⟩)))))))⟩
 by_cases h12 : k = 12
 ·subst h12; exact ⟨_, how12_spec, .inr (.inr (.inr (.inr (.inr (.inr (.inr (.inr (.inl ⟨rfl, rfl⟩))))))))⟩
 by_cases h13 : k = 13
 ·subst h13; exact ⟨_, how13_spec, .inr (.inr (.inr (.inr (.inr (.inr (.inr (.inr (.inr (.inl ⟨rfl, rfl⟩)))))))))⟩
 by_cases h14 : k = 14
 ·subst h14; exact ⟨_, how14_spec, .inr (.inr (.inr (.inr (.inr (.inr (.inr (.inr (.inr (.inr (.inl ⟨rfl, rfl⟩))))))))))⟩
 by_cases h15 : k = 15
 ·subst h15; exact ⟨_, how15_spec, .inr (.inr (.inr (.inr (.inr (.inr (.inr (.inr (.inr (.inr (.inr (.inl ⟨rfl, rfl⟩)))))))))))⟩
 by_cases h16 : k = 16
 ·subst h16; exact ⟨_, how16_spec, .inr (.inr (.inr (.inr (.inr (.inr (.inr (.inr (.inr (.inr (.inr (.inr (.inl ⟨rfl, rfl⟩))))))))))))⟩
 exact ⟨_, howX_spec k (by omega), .inr (.inr (.inr (.inr (.inr (.inr (.inr (.inr (.inr (.inr (.inr (.inr (.inr ⟨by omega, rfl⟩))))))))))))⟩
structure Op20.ok (o : Op20) : Prop where
 n : -9223372036854775808 ≤ o.n ∧ o.n ≤ 9223372036854775807
 f : -9223372036854775808 ≤ o.from_ ∧ o.from_ ≤ 9223372036854775807
 b : o.b.length ≤ 140737488355328
theorem how_do {s : VS} {m : Nat} (h : VJ s m) (hm : m ≤ 90000) {l : List Int} (hl : l.length = 16) (hlu : ∀ x ∈ l, U32 x) (o : Op20) (ho : o.ok) {i : Int} (hi : U32 i) :
  ∃ f, Con Tryz.prog 40 [.p (.int .u8 o.kind)] [] (.fn f []) [] [] ∧ ((o.kind = 9 ∧ f = 75) ∨ (o.kind ≠ 9 ∧ DoOk f o anyD s l i)) := by
 obtain ⟨f, hf, hc⟩ := how_ok o.kind
 refine ⟨f, hf, ?_⟩
 rcases hc with ⟨hk, rfl⟩ | ⟨hk, rfl⟩ | ⟨hk, rfl⟩ | ⟨hk, rfl⟩ | ⟨hk, rfl⟩ | ⟨hk, rfl⟩ | ⟨hk, rfl⟩ | ⟨hk, rfl⟩ | ⟨hk, rfl⟩ | ⟨hk, rfl⟩ | ⟨hk, rfl⟩ | ⟨hk, rfl⟩ | ⟨hk, rfl⟩ | ⟨hk, rfl⟩
 ·exact .inr ⟨by omega, create_d h hm hl o hk hi⟩
 ·exact .inr ⟨by omega, mkdir_d h hm hl o hk hi⟩
 ·exact .inr ⟨by omega, open_d h hm hl o hk i⟩
 ·exact .inr ⟨by omega, shut_d h hm hl hlu o hk i⟩
 ·exact .inr ⟨by omega, read_d h hm hl hlu o hk i ho.f ho.n⟩
 ·exact .inl ⟨hk, rfl⟩
 ·exact .inr ⟨by omega, trunc_d h hm hl hlu o hk i ho.n⟩
 ·exact .inr ⟨by omega, rename_d h hm hl o hk hi⟩
 ·exact .inr ⟨by omega, link_d h hm hl o hk hi⟩
 ·exact .inr ⟨by omega, unlink_d h hm hl o hk hi⟩
 ·exact .inr ⟨by omega, rmdir_d h hm hl o hk hi⟩
 ·exact .inr ⟨by omega, readdir_d h hm hl o hk i⟩
 ·exact .inr ⟨by omega, stat_d h hm hl o hk i⟩
 ·exact .inr ⟨by omega, strange_d s hl o hk i⟩
abbrev oA20 (o : Op20) (d : AV) : TV := .p (.agg [.int .u8 o.kind, .str o.path, .str o.other, .int .i64 o.h, .int .i64 o.from_, .int .i64 o.n, d])
theorem oA20_le (o : Op20) (d : AV) : TVLe (oA20 o d) (opT o (.p d)) := fun w β G v h => by
 cases h with | p h =>
 cases h with | agg _ vs hl hr =>
 refine .agg _ vs (by rw [hl]; rfl) fun j z u hz hu => ?_
 have hz' : (([.int .u8 o.kind, .str o.path, .str o.other, .int .i64 o.h, .int .i64 o.from_, .int .i64 o.n, d] : List AV).map TV.p)[j]? = some z := hz
 rw [List.getElem?_map] at hz'
 obtain ⟨y, hy, rfl⟩ := Option.map_eq_some_iff.1 hz'
 exact .p (hr j y u hy hu)
theorem oA20_mono (o : Op20) {x y : AV} (h : AVLe x y) : TVLe (oA20 o x) (oA20 o y) := fun w β G v q => by
 cases q with | p q =>
 cases q with | agg _ vs hl hr =>
 refine .p (.agg _ vs hl fun j z u hz hu => ?_)
 match j, hz with
 | 0, hz => exact hr 0 z u hz hu
 | 1, hz => exact hr 1 z u hz hu
 | 2, hz => exact hr 2 z u hz hu
 | 3, hz => exact hr 3 z u hz hu
 | 4, hz => exact hr 4 z u hz hu
 | 5, hz => exact hr 5 z u hz hu
 | 6, hz =>
  obtain rfl := Option.some.inj hz
  exact h _ _ _ (hr 6 x u rfl hu)
theorem Bs.or {x : AV} {l : List UInt8} (h : Bs x l) : x = .nils ∨ x = .cz ∨ x = .ps (bv l) := by
 cases h with
 | ps => exact .inr (.inr rfl)
 | nils => exact .inl rfl
 | cz => exact .inr (.inl rfl)
theorem Bs.one {x : AV} {l : List UInt8} (h : Bs x l) : AVLe x (.cell .top) := fun w N v q => .cell _ _ (by
 obtain ⟨y, hy, hq⟩ : ∃ y, (y = .nils ∨ y = .cz ∨ ∃ r, y = AV.ps r) ∧ RepA w N y v := ⟨x, by rcases h.or with e | e | e <;> simp [e], q⟩
 rcases hy with rfl | rfl | ⟨r, rfl⟩
 ·cases hq; rfl
 ·cases hq; rfl
 ·cases hq <;> rfl) (.top _)
theorem Sl.or {α : Type} {mk : α → AV} {x : AV} {l : List α} (h : Sl mk x l) : x = .nils ∨ x = .ps (l.map mk) := by
 cases h with
 | nils => exact .inl rfl
 | ps => exact .inr rfl
set_option maxHeartbeats 8000000 in
theorem do20_ps {s : VS} {m : Nat} (h : VJ s m) (hm : m ≤ 90000) {l : List Int} (hl : l.length = 16) (hlu : ∀ x ∈ l, U32 x) (o : Op20) (ho : o.ok) {i : Int} (hi : U32 i) (f0 : Int) {d : AV} (hd : Bs d o.b) :
  ∃ x n, Bs x (sdo s l o i).1.data ∧ Sl AV.str n (sdo s l o i).1.names ∧ Con Tryz.prog 15 [vP, oA20 o d, .p (.int .u32 i)] (dH s l f0) (resT (sdo s l o i).1 x n) (dH (sdo s l o i).2.1 (sdo s l o i).2.2 i) [] := by
 have hd1 : TVLe (oA20 o d) (oA20 o (.ps (bv o.b))) := oA20_mono o (bs_ps hd)
 have hd2 : TVLe (oA20 o d) (oA20 o (.cell .top)) := oA20_mono o hd.one
 have hl' := sdo_l ⟨hl, hlu⟩ s o i
 obtain ⟨f, c1, hc⟩ := how_do h hm hl hlu o ho hi
 have key : ∀ dv, TVLe (oA20 o d) (oA20 o dv) → (dv = .ps (bv o.b) ∨ dv = .cell .top) → DoOk f o (.p dv) s l i → ∃ x n, Bs x (sdo s l o i).1.data ∧ Sl AV.str n (sdo s l o i).1.names ∧ Con Tryz.prog 15 [vP, oA20 o d, .p (.int .u32 i)] (dH s l f0) (resT (sdo s l o i).1 x n) (dH (sdo s l o i).2.1 (sdo s l o i).2.2 i) [] := by
  rintro dv hle hdv ⟨x, n, hx, hn, c2⟩
  refine ⟨x, n, hx, hn, ?_⟩
  generalize (sdo s l o i).1 = r at c2 hx hn
  generalize (sdo s l o i).2.1 = s2 at c2
  generalize (sdo s l o i).2.2 = l2 at c2 hl'
  obtain ⟨a0, a1, a2, a3, a4, a5, a6, a7, a8, a9, a10, a11, a12, a13, a14, a15, rfl⟩ := len16 hl
  obtain ⟨b0, b1, b2, b3, b4, b5, b6, b7, b8, b9, b10, b11, b12, b13, b14, b15, rfl⟩ := len16 hl'.1
  have c3 : ∀ dv', dv = dv' → Con Tryz.prog 15 [vP, oA20 o dv', .p (.int .u32 i)] (dH s [a0, a1, a2, a3, a4, a5, a6, a7, a8, a9, a10, a11, a12, a13, a14, a15] f0) (resT r x n) (dH s2 [b0, b1, b2, b3, b4, b5, b6, b7, b8, b9, b10, b11, b12, b13, b14, b15] i) [] := by
   rintro dv' e
   have hx' := hx.or
   have hn' := hn.or
   rw [e] at hdv c2
   have c2 := Con.argT 1 c2 rfl (oA20_le o dv')
   clear e hx hn hle
   generalize r.data = rd at hx'
   generalize r.names.map AV.str = rn at hn'
   rcases hdv with rfl | rfl
   all_goals rcases hx' with rfl | rfl | rfl
   all_goals rcases hn' with rfl | rfl
   all_goals
    skip
    refine con_of Tryz.func15 rfl (by kernel_rfl) rfl fun F w0 β0 => ?_
    refine K_tell rfl ?_
    refine go ?_
    refine J_drawH2 5 6 (dH s2 [b0, b1, b2, b3, b4, b5, b6, b7, b8, b9, b10, b11, b12, b13, b14, b15] i) (by kernel_rfl) (by kernel_rfl) ?_
    apply Exists.intro
    refine gdH ?_
    refine T_opH rfl rfl rfl rfl rfl rfl (opr_call0P rfl rfl c1 rfl rfl rfl) rfl ?_
    refine gdH ?_
    refine T_stH rfl rfl rfl rfl rfl rfl (opr_callS [.o 0, .o 1, .o 2] rfl rfl c2 rfl rfl rfl ⟨⟨rfl, rfl⟩, ⟨rfl, rfl⟩, ⟨rfl, rfl⟩, trivial⟩ rfl rfl rfl rfl) rfl ?_
    refine gdH ?_
    refine go ?_
    exact J_done hT rfl rfl rfl
  exact Con.argT 1 (c3 dv rfl) rfl hle
 rcases hc with ⟨hk, rfl⟩ | ⟨hk, hc⟩
 ·exact key _ hd1 (.inl rfl) (write_d h hm hl hlu o hk i ho.f ho.b)
 ·exact key _ hd2 (.inr rfl) hc
structure POp where
 o : Op20
 a : AV
def popV (p : POp) : AV := .agg [.int .u8 p.o.kind, .str p.o.path, .str p.o.other, .int .i64 p.o.h, .int .i64 p.o.from_, .int .i64 p.o.n, p.a]
structure POp.ok (p : POp) : Prop where
 bs : Bs p.a p.o.b
 n : -9223372036854775808 ≤ p.o.n ∧ p.o.n ≤ 9223372036854775807
 f : -9223372036854775808 ≤ p.o.from_ ∧ p.o.from_ ≤ 9223372036854775807
 l : p.o.b.length ≤ 140737488351232
 lp : p.o.path.length ≤ Go.Awp.reach ∧ p.o.other.length ≤ Go.Awp.reach
theorem POp.ok.o {p : POp} (h : p.ok) : p.o.ok := ⟨h.n, h.f, by have := h.l; omega⟩
theorem all2_7 {R : Nat → AV → Prop} {a b c d e f g : Nat} {cs : List AV} (h : All2 R [a, b, c, d, e, f, g] cs) : ∃ x y z u v s t, cs = [x, y, z, u, v, s, t] ∧ R a x ∧ R b y ∧ R c z ∧ R d u ∧ R e v ∧ R f s ∧ R g t := by
 match cs, h with
 | [x, y, z, u, v, s, t], h => exact ⟨x, y, z, u, v, s, t, rfl, h.1, h.2.1, h.2.2.1, h.2.2.2.1, h.2.2.2.2.1, h.2.2.2.2.2.1, h.2.2.2.2.2.2.1⟩
theorem bytesN_shp {n : Nat} {a : AV} (h : Shp tab (n + 7) 31 a) : ∃ l, Bs a l ∧ l.length ≤ 140737488351232 := by
 rcases h.slice rfl with rfl | ⟨rows, te, ls, rfl, hte, hls, hlen, hrows⟩
 ·exact ⟨[], .nils, by simp⟩
 ·obtain rfl := Option.some.inj (hte.symm.trans (show tlk tab 5 = some ⟨.int .u8, 1, 1, [.int .u8 0]⟩ from rfl))
  obtain rfl := Option.some.inj (hls.symm.trans (show leaves tab (n + 6) 5 = some [5] from rfl))
  have key : ∀ rows : List AV, (∀ r ∈ rows, All2 (Shp tab (n + 6)) [5] (cellsOf r) ∧ (∀ y, isAggD (TyD.int .u8) = some false → cellsOf r = [y] → r = y) ∧ (isAggD (TyD.int .u8) = some true → ∃ cs, r = .agg cs)) → ∃ l, rows = bv l := by
   intro rows
   induction rows with
   | nil => intro _; exact ⟨[], rfl⟩
   | cons r rs ih =>
    intro hr
    obtain ⟨l, hl⟩ := ih fun r' h' => hr r' (by simp [h'])
    obtain ⟨h1, h2, _⟩ := hr r (by simp)
    match hc : cellsOf r, h1 with
    | [y], h1 =>
     obtain ⟨n, rfl, hn⟩ := h1.1.int rfl
     change 0 ≤ n ∧ n ≤ 255 at hn
     have hry := h2 _ rfl hc
     subst hry
     refine ⟨UInt8.ofNat n.toNat :: l, ?_⟩
     rw [hl]
     show _ = AV.int .u8 ((UInt8.ofNat n.toNat).toNat : Int) :: bv l
     rw [show ((UInt8.ofNat n.toNat).toNat : Int) = n by simp; omega]
  obtain ⟨l, rfl⟩ := key rows hrows
  refine ⟨l, .ps l, ?_⟩
  rw [bv_length] at hlen
  unfold Go.Awp.reach at hlen
  simpa using hlen
theorem op_shp {n : Nat} {cs : List AV} (h : All2 (Shp tab (n + 7)) [5, 9, 9, 3, 3, 3, 31] cs) : ∃ p : POp, AV.agg cs = popV p ∧ p.ok := by
 obtain ⟨x, y, z, u, v, s, t, rfl, hx, hy, hz, hu, hv, hs, ht⟩ := all2_7 h
 obtain ⟨k, rfl, _⟩ := hx.int rfl
 obtain ⟨p, rfl, hp⟩ := hy.str rfl
 obtain ⟨q, rfl, hq⟩ := hz.str rfl
 obtain ⟨hd, rfl, _⟩ := hu.int rfl
 obtain ⟨f, rfl, hf⟩ := hv.int rfl
 obtain ⟨m, rfl, hm⟩ := hs.int rfl
 obtain ⟨b, hb, hl⟩ := bytesN_shp ht
 exact ⟨⟨⟨k, p, q, hd, f, m, b⟩, t⟩, rfl, hb, hm, hf, hl, hp, hq⟩
theorem ops_shp20 {a : AV} (h : Shp tab 8 22 a) : ∃ l : List POp, Sl popV a l ∧ (∀ x ∈ l, x.ok) ∧ l.length ≤ 140737488355328 :=
 shp_agg popV _ h rfl rfl rfl rfl (by decide) fun cs hc => op_shp hc
theorem onew_spec (s : VS) : Con Tryz.prog 11 [vP] (vH s) (.ad (.l 0) 0) (vH s) [deskB (.o 0) noH 0] := by
 refine con_of Tryz.func11 rfl (by kernel_rfl) rfl fun F w0 β0 => ?_
 refine K_tell rfl ?_
 refine go ?_
 exact J_give hT rfl rfl
def great (o : Op20) : Bool := (decide ((o.path.length : Int) > 600) || decide ((o.other.length : Int) > 600)) || decide ((o.b.length : Int) > 1500)
theorem great_spec (o : Op20) {d : AV} (hd : Bs d o.b) : Con Tryz.prog 25 [oA20 o d] [] (.p (.bool (great o))) [] [] := by
 refine Con.argT (args := [oA20 o (.ps (bv o.b))]) 0 ?_ rfl (oA20_mono o (bs_ps hd))
 unfold great
 refine con_of Tryz.func25 rfl (by kernel_rfl) rfl fun F w0 β0 => ?_
 refine K_tell rfl ?_
 refine go ?_
 rw [bv_length]
 exact J_done hT rfl rfl rfl
set_option maxHeartbeats 1000000 in
theorem own_ps (o : Op20) {d : AV} (hd : Bs d o.b) (hl : o.b.length ≤ 140737488351232) : Con Tryz.prog 16 [oA20 o d] [] (opT o (.p (.ps (bv o.b)))) [] [] := by
 refine Con.argT (args := [oA20 o (.ps (bv o.b))]) 0 ?_ rfl (oA20_mono o (bs_ps hd))
 refine con_of Tryz.func16 rfl (by kernel_rfl) rfl fun F w0 β0 => ?_
 refine K_tell rfl ?_
 refine go ?_
 refine K_op rfl rfl (opr_frz (opr_app_lz (rows := bv o.b) hT rfl rfl (.inr rfl) rfl rfl (.rd (.ps _)) hbs_ps (bv_cl _) (bv_size _) (by decide) (by decide) (by rw [bv_length]; show _ * 1 ≤ _; omega)) rfl rfl) rfl ?_
 refine go ?_
 exact J_done hT rfl rfl rfl
def stop20 (i : Nat) (p : POp) : Bool := decide (60 ≤ i) || great p.o
set_option maxHeartbeats 8000000 in
theorem cut20_spec {s : AV} {l : List POp} (hs : Sl popV s l) (hok : ∀ x ∈ l, x.ok) (hl : l.length ≤ 140737488355328) : ∃ s', Sl popV s' (l.take (cutG stop20 l 0)) ∧ Con Tryz.prog 14 [.p s] [] (.p s') [] [] := by
 have hrd := hs.rd []
 have hlen : (l.map popV).length = l.length := by simp
 have hE : ∀ r ∈ l.map popV, (cellsOf r).length = 7 := by
  intro r hr
  obtain ⟨o, _, rfl⟩ := List.mem_map.1 hr
  rfl
 refine ⟨if cutG stop20 l 0 = l.length then s else .ps ((l.take (cutG stop20 l 0)).map popV), ?_, ?_⟩
 ·split
  ·rename_i h; rw [h, List.take_length]; exact hs
  ·exact .ps _
 refine con_of Tryz.func14 rfl (by kernel_rfl) rfl fun F w0 β0 => ?_
 refine K_tell rfl ?_
 refine go ?_
 refine K_op rfl rfl (opr_len_rd hT rfl rfl (hrd _)) rfl ?_
 rw [hlen]
 refine go ?_
 refine J_loop (fun q : CG stop20 l => [(0, .p s), (5, .p s), (6, .p (.int .i64 (l.length : Int))), (7, .p (.int .i64 (q.i : Int)))]) (fun _ => []) (fun _ => []) (fun q => l.length - q.i) ⟨0, by omega, rfl⟩ ⟨rfl, rfl, rfl, rfl, trivial⟩ rfl rfl (fun q => ?_)
 have hi := q.h
 have he := q.e
 refine go ?_
 by_cases h : q.i < l.length
 ·have hx : l[q.i]? = some l[q.i] := List.getElem?_eq_getElem h
  have hxo := hok _ (List.getElem_mem h)
  generalize l[q.i] = x at hx hxo
  have hxk : (l.map popV)[((q.i : Nat) : Int).toNat]? = some (popV x) := by rw [Int.toNat_natCast, List.getElem?_map, hx]; rfl
  rw [cutG_step stop20 hx] at he
  have c1 := great_spec x.o (.ps x.o.b)
  have stopc : ∀ (hk : stop20 q.i x = true), cutG stop20 l 0 = q.i := fun hk => by rw [if_pos hk] at he; exact he.symm
  refine K_condT rfl (decide_eq_true (by omega)) ?_
  refine go ?_
  refine K_op rfl rfl (opr_index hT rfl rfl rfl rfl rfl (hrd _) (by omega) (by rw [hlen]; omega)) rfl ?_
  refine go ?_
  refine K_op rfl rfl (opr_load_el hT rfl rfl (hrd _) hxk rfl rfl) rfl ?_
  refine J_rep 11 (opT x.o (.p (.ps (bv x.o.b)))) rfl (agg_rep 6 rfl (bs_ps hxo.bs)) ?_
  refine gx ?_
  by_cases h60 : 60 ≤ q.i
  ·refine J_true 14 rfl (decide_eq_true (by omega)) ?_
   have hk : stop20 q.i x = true := by unfold stop20; rw [decide_eq_true h60]; rfl
   rw [stopc hk, if_neg (by omega)]
   cases hs with
   | nils => simp at hx
   | ps =>
    have e : ((l.map popV).drop 0).take (((q.i : Nat) : Int).toNat - 0) = (l.take q.i).map popV := by simp
    rw [← e]
    refine go ?_
    refine K_op rfl rfl (opr_cut hT rfl rfl rfl rfl (hrd _) rfl rfl (by omega) (by omega) (by rw [hlen]; omega) hE) rfl ?_
    refine go ?_
    exact J_done hT rfl rfl rfl
  refine J_false 14 rfl (decide_eq_false (by omega)) ?_
  refine gx ?_
  refine K_yes rfl rfl rfl (opr_callP rfl rfl (c1) rfl rfl rfl rfl) rfl ?_
  have hst : stop20 q.i x = great x.o := by unfold stop20; rw [decide_eq_false h60]; rfl
  rw [hst] at he stopc
  generalize great x.o = g at he stopc
  cases g with
  | true =>
   rw [stopc rfl, if_neg (by omega)]
   cases hs with
   | nils => simp at hx
   | ps =>
    have e : ((l.map popV).drop 0).take (((q.i : Nat) : Int).toNat - 0) = (l.take q.i).map popV := by simp
    rw [← e]
    refine go ?_
    refine K_op rfl rfl (opr_cut hT rfl rfl rfl rfl (hrd _) rfl rfl (by omega) (by omega) (by rw [hlen]; omega) hE) rfl ?_
    refine go ?_
    exact J_done hT rfl rfl rfl
  | false =>
   rw [if_neg (by simp)] at he
   refine go ?_
   refine J_take 0 [(0, .p s), (5, .p s), (6, .p (.int .i64 (l.length : Int))), (7, .p (.int .i64 (IntKind.i64.wrap ((q.i : Int) + 1))))] ⟨rfl, rfl, rfl, rfl, trivial⟩ rfl rfl ?_
   refine J_again ⟨q.i + 1, by omega, he⟩ (by show l.length - (q.i + 1) < l.length - q.i; omega) ⟨rfl, rfl, rfl, congrArg (fun z => TV.p (.int .i64 z)) (by rw [IntWalk.i64_in _ (by omega)]; rfl), trivial⟩ rfl rfl
 ·refine K_condF rfl (decide_eq_false (by omega)) ?_
  have e : cutG stop20 l 0 = l.length := by rw [← he, cutG_end stop20 (by omega)]; omega
  rw [if_pos e]
  refine go ?_
  exact J_done hT rfl rfl rfl
theorem cut20_len {l : List POp} : (l.take (cutG stop20 l 0)).length ≤ 60 := by
 have := cutG_max stop20 (n := 60) (fun i o h => by unfold stop20; rw [decide_eq_true h]; rfl) l 0 (by omega)
 have h2 := List.length_take_le (cutG stop20 l 0) l
 omega
abbrev resA (r : RS) (d n : AV) : TV := .p (.agg [.int .i64 r.e, .int .i64 r.n, d, n, .int .u8 r.st.1, .int .u32 r.st.2.1, .int .u32 r.st.2.2.1, .int .u32 r.st.2.2.2])
set_option maxHeartbeats 8000000 in
theorem same20_spec (r : RS) {d n d' n' : AV} (hd : Bs d r.data) (hn : Sl AV.str n r.names) (hd' : Bs d' r.data) (hn' : Sl AV.str n' r.names) (hl : r.names.length ≤ big40) : Con Tryz.prog 18 [resA r d n, resA r d' n'] [] (.p (.bool true)) [] [] := by
 have c1 := same16_spec n n' r.names r.names (fun L => hn.rd [] L) (fun L => hn'.rd [] L) hl
 rw [decide_eq_true rfl] at c1
 refine con_of Tryz.func18 rfl (by kernel_rfl) rfl fun F w0 β0 => ?_
 refine K_tell rfl ?_
 refine gx ?_
 refine J_true 10 rfl (by simp) ?_
 refine gx ?_
 refine J_true 17 rfl (by simp) ?_
 refine gx ?_
 refine K_yes rfl rfl rfl (opr_to_str hT rfl rfl rfl rfl rfl hd.rd) rfl ?_
 refine gx ?_
 refine K_yes rfl rfl rfl (opr_to_str hT rfl rfl rfl rfl rfl hd'.rd) rfl ?_
 refine gx ?_
 refine J_true 26 rfl (by simp) ?_
 refine gx ?_
 refine K_yes rfl rfl rfl (opr_callP rfl rfl (c1) rfl rfl rfl rfl) rfl ?_
 refine gx ?_
 refine J_true 4 rfl (by simp) ?_
 exact J_done hT rfl rfl rfl
end Go.Proofs.YtdkegmmigongoaaGreatDoor
namespace Go.Proofs.YtdkegmmigongoaaGreatDoor
set_option maxRecDepth 20000
open Go.Awp Go.RowKit
section
variable {P : Program} {T : Tab} {Γ : Ctx} {env : Env} {H L : List AObj} {Q : Exit → Act → World → Prop} {ops : Array Oper} {rest : List Oper}
theorem J_litmarkY {o1 o2 : Oper} {d1 t n e j1 j2 : Nat} {b1 b2 : Bool} {parts : List (Nat × Operand)} {cs : List TV} {rows ys : List AV} (hT : TabOk P T) (g1 : o1.guard = some (j1, b1)) (hb1 : gA ops env j1 = some b1) (g2 : o2.guard = some (j2, b2)) (hb2 : gA ops (putE env (some d1) (.p .top)) j2 = some b2) (hd1 : o1.dst = some d1) (hlt : Nat.blt d1 Γ.N = true) (hd2 : dstOk Γ.N o2.dst = true) (ho : o1.op = .buildSlice t n parts.toArray) (ho2 : o2.op = .convert t t (.tmp d1))
  (hb : bsl T t n (evP env parts) = some (e, cs, rows)) (hu : unpL cs = some ys) (hn : noAgg ys = true) (h8 : tyD T e = .int .u8) (k : J Γ (putE (putE env (some d1) (.p .top)) o2.dst (.p (.ps rows))) H L (wpList P ops Q rest)) : J Γ env H L (wpList P ops Q (o1 :: o2 :: rest)) := by
 intro a w β s
 obtain ⟨out, hty, hrun, hrep⟩ := lit_core (o := o1) hT ho hb hu hn s.sim s.env
 obtain ⟨u8, q1, q2⟩ := tyD_und hT (t := e) (by rw [h8]; simp)
 rw [h8] at q2
 obtain rfl := chkD_int q2
 have hconv := Go.Joins.run_convert_bytes_const_at (P := P) w t e out n n w.heap.size rfl hty q1
 unfold wpList
 rw [if_pos (by simp [Region.wanted, g1, gA_ok s.env hb1])]
 refine .inl ?_
 unfold Oper.wp
 rw [hrun]
 show wpList P ops Q (o2 :: rest) _ _
 simp only [Nat.blt_eq] at hlt
 have hev : (a.put o1.dst (.slice (some ⟨w.heap.size, 0, none⟩) n n)).eval (.tmp d1) = .slice (some ⟨w.heap.size, 0, none⟩) n n := by
  rw [hd1]
  have : d1 < a.tmps.size := by rw [s.size]; exact hlt
  simp [Act.eval, Act.put, Array.getD, this]
 have hrun2 : (execOp (a.put o1.dst (.slice (some ⟨w.heap.size, 0, none⟩) n n)).eval o2).run P (w.alloc (.cells out e)) = .ok (.value (.slice (some ⟨w.heap.size, 0, none⟩) n n)) (w.alloc (.cells out e (out.size, out.size + 1))) := by
  simp only [execOp, ho2, Sem.run_bind, hev, hconv, Result.andThen_ok, Sem.run_pure]
 obtain ⟨s1, s2⟩ := step_alloc s.sim (.cells out e (out.size, out.size + 1))
 obtain ⟨v1, v2⟩ := step_alloc s.sim (.cells out e)
 have hr := hrep _ (out.size, out.size + 1) (alloc_new w _) (by simp) s1
 have st0 := s.next (d := some d1) (x := .p .top) (u := .slice (some ⟨w.heap.size, 0, none⟩) n n) (by simp [dstOk, hlt]) v2 v1 (.p (.top _))
 unfold wpList
 rw [hd1] at hrun2 ⊢
 rw [if_pos (by simp [Region.wanted, g2, gA_ok st0.env hb2])]
 refine .inl ?_
 unfold Oper.wp
 rw [hrun2]
 have st1 := s.next (d := some d1) (x := .p .top) (u := .slice (some ⟨w.heap.size, 0, none⟩) n n) (by simp [dstOk, hlt]) s2 s1 (.p (.top _))
 have st2 := st1.next (d := o2.dst) (x := .p (.ps rows)) hd2 s2 (Step.refl ..) hr
 exact k _ _ _ st2
end
end Go.Proofs.YtdkegmmigongoaaGreatDoor
namespace Go.Proofs.YtdkegmmigongoaaGreatDoor
set_option maxRecDepth 20000
open Go.Awp Tr
def o20a : Op20 := ⟨4, [47, 97], [], 0, 0, 0, []⟩
def o20b : Op20 := ⟨6, [47, 97], [], 0, 0, 0, []⟩
def o20c : Op20 := ⟨9, [], [], 0, 0, 0, [120, 121]⟩
def o20d : Op20 := ⟨8, [], [], 0, 0, 9, []⟩
def t20a : RS × VS × List Int := sdo (VS.new .nil) noH o20a 2
def t20b : RS × VS × List Int := sdo t20a.2.1 t20a.2.2 o20b 0
def t20c : RS × VS × List Int := sdo t20b.2.1 t20b.2.2 o20c 0
def t20d : RS × VS × List Int := sdo t20c.2.1 t20c.2.2 o20d 0
theorem sdo_i (s : VS) (l : List Int) (o : Op20) (i j : Int) (h4 : o.kind ≠ 4) (h5 : o.kind ≠ 5) : sdo s l o i = sdo s l o j := by
 unfold sdo
 rw [if_neg h4, if_neg h5, if_neg h4, if_neg h5]
theorem D20.next {s : VS} {l : List Int} {m : MF} {i : Nat} (d : D20 s l m (fun k => k < (2 + i : Nat)) i) (hi : i ≤ 100) (o : Op20) {q : RS × VS × List Int} (hq : sdo s l o (2 + i : Nat) = q) (he : q.1.e ≠ 21) : ∃ m', D20 q.2.1 q.2.2 m' (fun k => k < (2 + (i + 1) : Nat)) (i + 1) := by
 rcases d.step (Q := fun k => k < (2 + (i + 1) : Nat)) (by omega) o (j := (2 + i : Nat)) (by unfold U32; omega) (by omega) (by omega) (fun k h => by omega) (by omega) with h | ⟨_, _, h⟩
 ·rw [hq] at h; exact absurd h he
 ·rw [hq] at h; exact ⟨_, h⟩
theorem D20.start : D20 (VS.new .nil) noH newM (fun k => k < (2 + 0 : Nat)) 0 := D20.new (by decide)
theorem fixed20_parts : ∃ x1 n1 x2 n2 x3 n3 x4 n4 : AV, Bs x4 [120, 121] ∧
  Con Tryz.prog 15 [vP, oA20 o20a .nils, .p (.int .u32 2)] (dH (VS.new .nil) noH 0) (resT (rs0 0) x1 n1) (dH t20a.2.1 t20a.2.2 2) [] ∧
  Con Tryz.prog 15 [vP, oA20 o20b .nils, .p (.int .u32 0)] (dH t20a.2.1 t20a.2.2 2) (resT (rs0 0) x2 n2) (dH t20b.2.1 t20b.2.2 0) [] ∧
  Con Tryz.prog 15 [vP, oA20 o20c (.ps (bv [120, 121])), .p (.int .u32 0)] (dH t20b.2.1 t20b.2.2 0) (resT { rs0 0 with n := 2 } x3 n3) (dH t20c.2.1 t20c.2.2 0) [] ∧
  Con Tryz.prog 15 [vP, oA20 o20d .nils, .p (.int .u32 0)] (dH t20c.2.1 t20c.2.2 0) (resT ⟨0, 2, [120, 121], [], (0, 0, 0, 0)⟩ x4 n4) (dH t20d.2.1 t20d.2.2 0) [] ∧
  t20a.2.2.length = 16 ∧ t20b.2.2.length = 16 ∧ t20c.2.2.length = 16 ∧ t20d.2.2.length = 16 := by
 have d0 := D20.start
 obtain ⟨m1, d1⟩ := d0.next (by omega) o20a (q := t20a) rfl (by rw [show t20a.1.e = 0 by kernel_rfl]; decide)
 obtain ⟨m2, d2⟩ := d1.next (by omega) o20b (q := t20b) (sdo_i _ _ _ _ 0 (by decide) (by decide)) (by rw [show t20b.1.e = 0 by kernel_rfl]; decide)
 obtain ⟨m3, d3⟩ := d2.next (by omega) o20c (q := t20c) (sdo_i _ _ _ _ 0 (by decide) (by decide)) (by rw [show t20c.1.e = 0 by kernel_rfl]; decide)
 obtain ⟨m4, d4⟩ := d3.next (by omega) o20d (q := t20d) (sdo_i _ _ _ _ 0 (by decide) (by decide)) (by rw [show t20d.1.e = 0 by kernel_rfl]; decide)
 obtain ⟨x1, n1, _, _, c1⟩ := do20_ps d0.v (by omega) d0.l.1 d0.l.2 o20a ⟨by decide, by decide, by decide⟩ (i := 2) (by decide) 0 .nils
 obtain ⟨x2, n2, _, _, c2⟩ := do20_ps d1.v (by omega) d1.l.1 d1.l.2 o20b ⟨by decide, by decide, by decide⟩ (i := 0) (by decide) 2 .nils
 obtain ⟨x3, n3, _, _, c3⟩ := do20_ps d2.v (by omega) d2.l.1 d2.l.2 o20c ⟨by decide, by decide, by decide⟩ (i := 0) (by decide) 0 (.ps _)
 obtain ⟨x4, n4, h4, _, c4⟩ := do20_ps d3.v (by omega) d3.l.1 d3.l.2 o20d ⟨by decide, by decide, by decide⟩ (i := 0) (by decide) 0 .nils
 change Con Tryz.prog _ _ _ (resT t20a.1 x1 n1) (dH t20a.2.1 t20a.2.2 2) _ at c1
 change Con Tryz.prog _ _ _ (resT t20b.1 x2 n2) (dH t20b.2.1 t20b.2.2 0) _ at c2
 change Con Tryz.prog _ _ _ (resT t20c.1 x3 n3) (dH t20c.2.1 t20c.2.2 0) _ at c3
 change Con Tryz.prog _ _ _ (resT t20d.1 x4 n4) (dH t20d.2.1 t20d.2.2 0) _ at c4
 change Bs x4 t20d.1.data at h4
 rw [show t20a.1 = rs0 0 by kernel_rfl] at c1
 rw [show t20b.1 = rs0 0 by kernel_rfl] at c2
 rw [show t20c.1 = { rs0 0 with n := 2 } by kernel_rfl] at c3
 rw [show t20d.1 = ⟨0, 2, [120, 121], [], (0, 0, 0, 0)⟩ by kernel_rfl] at c4
 rw [show t20d.1.data = [120, 121] by kernel_rfl] at h4
 exact ⟨x1, n1, x2, n2, x3, n3, x4, n4, h4, c1, c2, c3, c4, d1.l.1, d2.l.1, d3.l.1, d4.l.1⟩
set_option maxHeartbeats 8000000 in
theorem fixed20_spec : Con Tryz.prog 17 [] [] (.p (.bool true)) [] [] := by
 obtain ⟨x1, n1, x2, n2, x3, n3, x4, n4, h4, c1, c2, c3, c4, l1, l2, l3, l4⟩ := fixed20_parts
 generalize t20a.2.1 = s1 at c1 c2
 generalize t20a.2.2 = k1 at c1 c2 l1
 generalize t20b.2.1 = s2 at c2 c3
 generalize t20b.2.2 = k2 at c2 c3 l2
 generalize t20c.2.1 = s3 at c3 c4
 generalize t20c.2.2 = k3 at c3 c4 l3
 generalize t20d.2.1 = s4 at c4
 generalize t20d.2.2 = k4 at c4 l4
 obtain ⟨a0, a1, a2, a3, a4, a5, a6, a7, a8, a9, a10, a11, a12, a13, a14, a15, rfl⟩ := len16 l1
 obtain ⟨b0, b1, b2, b3, b4, b5, b6, b7, b8, b9, b10, b11, b12, b13, b14, b15, rfl⟩ := len16 l2
 obtain ⟨e0, e1, e2, e3, e4, e5, e6, e7, e8, e9, e10, e11, e12, e13, e14, e15, rfl⟩ := len16 l3
 obtain ⟨g0, g1', g2, g3, g4, g5, g6, g7, g8, g9, g10, g11, g12, g13, g14, g15, rfl⟩ := len16 l4
 clear l1 l2 l3 l4
 refine con_of Tryz.func17 rfl (by kernel_rfl) rfl fun F w0 β0 => ?_
 refine K_tell rfl ?_
 refine go ?_
 refine K_op rfl rfl (opr_callP rfl rfl (tnew_spec) rfl rfl rfl rfl) rfl ?_
 refine go ?_
 refine K_op rfl rfl (opr_callP rfl rfl (vnew_spec .nil) rfl rfl rfl rfl) rfl ?_
 refine go ?_
 refine K_op rfl rfl (opr_callS [.l 0, .l 1] rfl rfl (onew_spec (VS.new .nil)) rfl rfl rfl ⟨⟨rfl, rfl⟩, ⟨rfl, rfl⟩, trivial⟩ rfl rfl rfl rfl) rfl ?_
 refine go ?_
 refine K_yes rfl rfl rfl (opr_callS [.l 2, .l 0, .l 1] rfl rfl (c1) rfl rfl rfl ⟨⟨rfl, rfl⟩, ⟨rfl, rfl⟩, ⟨rfl, rfl⟩, trivial⟩ rfl rfl rfl rfl) rfl ?_
 refine go ?_
 refine K_yes rfl rfl rfl (opr_callS [.l 2, .l 0, .l 1] rfl rfl (c2) rfl rfl rfl ⟨⟨rfl, rfl⟩, ⟨rfl, rfl⟩, ⟨rfl, rfl⟩, trivial⟩ rfl rfl rfl rfl) rfl ?_
 iterate 5 (refine g1 ?_)
 refine J_litmarkY hT rfl rfl rfl rfl rfl rfl rfl rfl rfl rfl rfl rfl rfl ?_
 refine go ?_
 refine K_yes rfl rfl rfl (opr_callS [.l 2, .l 0, .l 1] rfl rfl (c3) rfl rfl rfl ⟨⟨rfl, rfl⟩, ⟨rfl, rfl⟩, ⟨rfl, rfl⟩, trivial⟩ rfl rfl rfl rfl) rfl ?_
 refine go ?_
 refine K_op rfl rfl (opr_callS [.l 2, .l 0, .l 1] rfl rfl (c4) rfl rfl rfl ⟨⟨rfl, rfl⟩, ⟨rfl, rfl⟩, ⟨rfl, rfl⟩, trivial⟩ rfl rfl rfl rfl) rfl ?_
 refine go ?_
 refine K_op rfl rfl (opr_to_str hT rfl rfl rfl rfl rfl h4.rd) rfl ?_
 refine go ?_
 exact J_done hT rfl rfl rfl
end Go.Proofs.YtdkegmmigongoaaGreatDoor
