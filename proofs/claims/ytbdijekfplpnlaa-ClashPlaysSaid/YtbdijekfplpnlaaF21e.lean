/- clash: a history; New, Now, Len, the clones, Add. -/
import Derived.Test.YtbdijekfplpnlaaGo
import Derived.Test.YtbdijekfplpnlaaF21d
import Derived.Test.YtbdijekfplpnlaaPick
-- @D
namespace Go.Proofs.Ytbdijekfplpnlaa
set_option maxRecDepth 20000
open Go.Awp Tr
/-- A part of a slice, held against nil. -/
theorem J_slAny {P : Program} {T : Tab} {Γ : Ctx} {env : Env} {H L : List AObj} {Q : Exit → Act → World → Prop} {ops : Array Oper} {rest : List Oper} {o : Oper} {t t2 : TypeId} {y z : Operand} {h : Hd} {e0 e n st len : Nat} {Ty : TypeId} {b : Bool} {rows : List AV} (hT : TabOk P T) (hgd : o.guard = none) (hdd : dstOk Γ.N o.dst = true) (ho : o.op = .binOp .eql t y z t2) (hd : tyD T t = .slice e0) (hy : evA env y = .sl h n st len) (hz : evA env z = .p .nils)
    (hg : (⟨H, L, noF⟩ : Hp).get h = some (.arr Ty b e rows)) (hn : rows.length = n) (k : ∀ c : Bool, (0 < len → c = false) → J Γ (putE env o.dst (.p (.bool c))) H L (wpList P ops Q rest)) : J Γ env H L (wpList P ops Q (o :: rest)) :=
  J_any (x := fun c : {c : Bool // 0 < len → c = false} => .p (.bool c.1)) hgd hdd (fun F w β a hS he => by
    have hv := evA_ok he y
    rw [hy] at hv
    have hw := evA_ok he z
    rw [hz] at hw
    obtain ⟨u, h1, h2⟩ := tyD_und hT (t := t) (by rw [hd]; simp)
    rw [hd] at h2
    obtain rfl := chkD_slice h2
    have hzv : a.eval z = .slice none 0 0 := by
      generalize a.eval z = q at hw
      cases hw with | p hw => cases hw; rfl
    have hg' : (⟨H, L, F⟩ : Hp).get h = some (.arr Ty b e rows) := by cases h <;> exact hg
    generalize hq : a.eval y = q at hv
    cases hv with | sl _ _ _ _ _ _ _ hv =>
    obtain ⟨ao, cap, rfl, _, _, hao⟩ := (hv _ _ _ _ hg' hn).val
    exact ⟨⟨ao.isNone, fun h0 => by rw [hao h0]; rfl⟩, _, eqSl_val h1 ho hq hzv, .p (.bool ..)⟩) fun c => k c.1 c.2
/-- An operation behind an own object's becoming the caller's. -/
theorem opr_adoptThen {P : Program} {env : Env} {H L H' L' : List AObj} {o : Oper} {x : TV} (i : Nat) {ob : AObj} (hi : L[i]? = some ob) (hx : (ob.mv i H.length).ext = true) (h : OpR P o (mvE i H.length env) (H ++ [ob.mv i H.length]) (mvM i H.length (L.set i .dead)) x H' L') : OpR P o env H L x H' L' := by
  intro F w β a next Q hS he hn
  obtain ⟨h1, h2⟩ := adopt hi hx hS
  exact h F w _ a next Q h1 (fun t => by rw [mvE_lk]; exact (he t).adopt hi hS) fun w' β' u s1 s2 s3 => hn w' β' u s1 (h2.trans s2) s3
/-- What was written at one time. -/
def prow (w : List PW) : AV := .ps (w.map pwV)
abbrev pA (w : List PW) : AObj := .arr 99 true 3 (w.map pwV)
abbrev hB (h : Hd) (d n : Nat) : AObj := .box 119 [.p (.int .u64 (d : Int)), .sl h n 0 n]
abbrev hA (g : List (List PW)) : AObj := .arr 37 true 1 (g.map prow)
abbrev hH (d : Nat) (g : List (List PW)) : List AObj := [hB (.o 1) d g.length, hA g]
abbrev hN (d : Nat) (g : List (List PW)) : List AObj := [hB (.l 1) d g.length, hA g]
theorem prow_cl (g : List (List PW)) : clR (g.map prow) := by
  intro r hr x hx
  obtain ⟨y, _, rfl⟩ := List.mem_map.1 hr
  simp [cellsOf, prow] at hx
  subst hx
  rfl
theorem prow_size (g : List (List PW)) : ∀ r ∈ g.map prow, (cellsOf r).length = 1 := by
  intro r hr
  obtain ⟨y, _, rfl⟩ := List.mem_map.1 hr
  rfl
theorem hnew_spec : Con Try.prog 52 [] [] (.ad (.l 0) 0) [] (hN 0 []) := by
  refine con_of Try.func52 rfl (by kernel_rfl) rfl fun F w0 β0 => ?_
  refine K_tell rfl ?_
  refine go ?_
  refine J_lazy 0 1 37 (e := 1) rfl rfl rfl (.inl rfl) ?_
  exact J_give hT rfl rfl
theorem hnow_spec (d : Nat) (g : List (List PW)) (h : d + g.length ≤ 1000) : Con Try.prog 57 [.ad (.o 0) 0] (hH d g) (.p (.int .u64 ((d + g.length : Nat) : Int))) (hH d g) [] := by
  have hlen : (g.map prow).length = g.length := by simp
  refine con_of Try.func57 rfl (by kernel_rfl) rfl fun F w0 β0 => ?_
  refine K_tell rfl ?_
  refine go ?_
  refine J_draw [_] [] (by kernel_rfl) (by kernel_rfl) rfl ?_
  refine gd ?_
  refine T_opD rfl rfl rfl rfl rfl (opr_len_rd hT rfl rfl (Rd.full rfl hlen)) rfl ?_
  rw [hlen, show ((d + g.length : Nat) : Int) = IntKind.u64.wrap ((d : Int) + IntKind.u64.wrap (g.length : Int)) by rw [u64_in (g.length : Int) (by omega), u64_in _ (by omega)]; omega]
  refine gd ?_
  refine go ?_
  exact J_done hT rfl rfl rfl
theorem hlen_spec (d : Nat) (g : List (List PW)) : Con Try.prog 58 [.ad (.o 0) 0] (hH d g) (.p (.int .i64 (g.length : Int))) (hH d g) [] := by
  have hlen : (g.map prow).length = g.length := by simp
  refine con_of Try.func58 rfl (by kernel_rfl) rfl fun F w0 β0 => ?_
  refine K_tell rfl ?_
  refine go ?_
  refine K_op rfl rfl (opr_len_rd hT rfl rfl (Rd.full rfl hlen)) rfl ?_
  rw [hlen]
  refine go ?_
  exact J_done hT rfl rfl rfl
theorem pwClone_spec (w : List PW) (hl : w.length ≤ 100000) : Con Try.prog 73 [.sl (.o 0) w.length 0 w.length] [pA w] (.p (prow w)) [pA w] [] := by
  unfold prow
  cases w with
  | nil =>
    have hrd : ∀ L, Rd [pA []] L (.sl (.o 0) 0 0 0) [] := fun L => Rd.full rfl rfl
    refine con_of Try.func73 rfl (by kernel_rfl) rfl fun F w0 β0 => ?_
    refine K_tell rfl ?_
    refine go ?_
    refine J_slNil hT rfl rfl rfl rfl rfl rfl rfl (fun b => ?_)
    cases b with
    | true =>
      refine go ?_
      refine J_lazyE 2 99 (e := 3) rfl rfl (.inl rfl) ?_
      refine J_freeze_all 2 0 rfl rfl rfl ?_
      refine J_take 0 [(2, .p (.ps []))] ⟨rfl, trivial⟩ rfl rfl ?_
      exact J_give hT rfl rfl
    | false =>
      refine go ?_
      refine K_op rfl rfl (opr_app_nothing (d := .cz) hT rfl rfl (.inr rfl) rfl rfl (.rd (hrd _)) hbs_sl) rfl ?_
      refine go ?_
      refine J_lazyE 2 99 (e := 3) rfl rfl (.inr rfl) ?_
      refine J_freeze_all 2 0 rfl rfl rfl ?_
      refine J_take 0 [(2, .p (.ps []))] ⟨rfl, trivial⟩ rfl rfl ?_
      exact J_give hT rfl rfl
  | cons r rs =>
    have hrd : ∀ L, Rd [pA (r :: rs)] L (.sl (.o 0) (r :: rs).length 0 (r :: rs).length) ((r :: rs).map pwV) := fun L => Rd.full rfl (by simp)
    generalize hn : r :: rs = m at hrd hl
    have h0 : 0 < m.length := by rw [← hn]; simp
    refine con_of Try.func73 rfl (by kernel_rfl) rfl fun F w0 β0 => ?_
    refine K_tell rfl ?_
    refine go ?_
    refine K_op rfl rfl (opr_slNe hT rfl rfl rfl rfl rfl (by simp) h0) rfl ?_
    refine go ?_
    refine K_op rfl rfl (opr_app_new hT rfl rfl (.inr rfl) rfl (.rd (hrd _)) hbs_sl (pw_cl m) (pw_size m) (by decide) (by decide) (by simpa using h0) (by simp; omega)) rfl ?_
    refine go ?_
    refine J_freeze_all 2 0 rfl rfl rfl ?_
    refine J_take 0 [(2, .p (.ps (m.map pwV)))] ⟨rfl, trivial⟩ rfl rfl ?_
    exact J_give hT rfl rfl
theorem hClone_spec (g : List (List PW)) (k : Nat) (hk : k ≤ g.length) (hl : g.length ≤ 100000) : Con Try.prog 74 [.sl (.o 0) g.length k (g.length - k)] [hA g] (.sl (.l 0) (g.drop k).length 0 (g.drop k).length) [hA g] [hA (g.drop k)] := by
  have hlen : (g.map prow).length = g.length := by simp
  have ed : ((g.map prow).drop k).take (g.length - k) = (g.drop k).map prow := by
    rw [← List.map_drop]
    exact List.take_of_length_le (by simp)
  have hrd : ∀ L, Rd [hA g] L (.sl (.o 0) g.length k (g.length - k)) ((g.drop k).map prow) := fun L => by
    rw [← ed]
    exact .sl rfl hlen
  have e2 : (g.drop k).length = g.length - k := by simp
  by_cases h0 : k = g.length
  · have e3 : g.drop k = [] := by rw [h0]; simp
    rw [e3] at hrd ⊢
    refine con_of Try.func74 rfl (by kernel_rfl) rfl fun F w0 β0 => ?_
    refine K_tell rfl ?_
    refine go ?_
    refine J_slAny hT rfl rfl rfl rfl rfl rfl rfl hlen (fun b _ => ?_)
    cases b with
    | true =>
      refine go ?_
      refine J_lazyE 2 37 (e := 1) rfl rfl (.inl rfl) ?_
      exact J_give hT rfl rfl
    | false =>
      refine go ?_
      refine K_op rfl rfl (opr_app_nothing (d := .cz) hT rfl rfl (.inr rfl) rfl rfl (.rd (hrd _)) hbs_sl) rfl ?_
      refine go ?_
      refine J_lazyE 2 37 (e := 1) rfl rfl (.inr rfl) ?_
      exact J_give hT rfl rfl
  · generalize hm : g.drop k = m at hrd e2
    refine con_of Try.func74 rfl (by kernel_rfl) rfl fun F w0 β0 => ?_
    refine K_tell rfl ?_
    refine go ?_
    refine J_slAny hT rfl rfl rfl rfl rfl rfl rfl hlen (fun b hb => ?_)
    obtain rfl := hb (by omega)
    refine go ?_
    refine K_op rfl rfl (opr_app_new hT rfl rfl (.inr rfl) rfl (.rd (hrd _)) hbs_sl (prow_cl m) (prow_size m) (by decide) (by decide) (by simp; omega) (by simp; omega)) rfl ?_
    rw [List.length_map]
    refine go ?_
    exact J_give hT rfl rfl
end Go.Proofs.Ytbdijekfplpnlaa
