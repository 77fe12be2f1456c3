import Derived.Test.YtdnpkgakpiopgaaGreatDoorAw2
import Derived.LoopN
import Derived.Lib.OthersKept
namespace Go.Awp
open Go.RowKit
def strip : TV → TV
 | .opt _ x => x
 | x => x
def strE (env : Env) : List Nat → Env
 | [] => []
 | t :: r => (t, strip (lk env t)) :: strE env r
def needE (env : Env) : List Nat → List Bool
 | [] => []
 | t :: r => match lk env t with
  | .opt g _ => g :: needE env r
  | _ => needE env r
def NeedAll (c : Bool) : List Bool → Prop
 | [] => True
 | g :: r => (c = true → g = true) ∧ NeedAll c r
def grd (c : Bool) : Bool → Bool
 | true => c
 | false => !c
def gB (ops : Array Oper) (env : Env) (j : Nat) (b : Bool) : Option Bool :=
 match (ops[j]?).bind (·.dst) with
 | some d => match lk env d with
  | .p (.bool c) => some (grd c b)
  | .opt g (.p (.bool c)) => some (g && grd c b)
  | _ => none
 | none => none
theorem zV6 {w : World} {β : Hd → Nat} {G : Hp} {env : Env} {a : Act} {c : Bool} (hc : c = true) (he : EnvR w β G env a) : ∀ (us : List Nat), NeedAll c (needE env us) → EnvR w β G (strE env us) a
 | [], _ => fun t => .p (.top _)
 | u :: us, hn => fun t => by
  simp only [strE, y4]
  have hu := he u
  split
  ·rename_i e
   rw [e]
   cases hx : lk env u with
   | opt g x =>
    simp only [needE, hx, NeedAll] at hn
    rw [hx] at hu
    cases hu with | opt _ _ _ h1 _ => exact h1 (hn.1 hc)
   | _ => rw [hx] at hu; exact hu
  ·refine zV6 hc he us ?_ t
   simp only [needE] at hn
   split at hn
   ·exact hn.2
   ·exact hn
theorem zSo {a : Act} {d : Nat} {v : Value} (hv : a.tmps.getD d undef = v) (hne : v ≠ undef) : a.tmps[d]? = some v := by
 have hlt : d < a.tmps.size := by
  rcases Nat.lt_or_ge d a.tmps.size with h | h
  ·exact h
  ·exact absurd (by rw [← hv]; simp [Array.getD, Nat.not_lt.2 h]) hne
 rw [Array.getElem?_eq_getElem hlt]
 simpa [Array.getD, hlt] using hv
theorem gB_ok {w : World} {β : Hd → Nat} {G : Hp} {ops : Array Oper} {env : Env} {a : Act} {j : Nat} {b c : Bool} (he : EnvR w β G env a) (h : gB ops env j b = some c) :
  (c = true → yielded ops a.tmps j = some b) ∧ (c = false → yielded ops a.tmps j ≠ some b) := by
 unfold gB at h
 unfold yielded
 split at h
 ·rename_i d hd
  rw [hd]
  have hdd := he d
  split at h
  ·rename_i c' hb
   obtain rfl : grd c' b = c := by simpa using h
   rw [hb] at hdd
   have h2 := zSo hdd.bool_inv (by simp [undef])
   cases b <;> cases c' <;> simp [grd, h2]
  ·rename_i g c' hb
   obtain rfl : (g && grd c' b) = c := by simpa using h
   rw [hb] at hdd
   cases hdd with | opt _ _ _ h1 h2 =>
   cases g with
   | true =>
    have h3 := zSo (h1 rfl).bool_inv (by simp [undef])
    cases b <;> cases c' <;> simp [grd, h3]
   | false =>
    refine ⟨fun h => by simp at h, fun _ => ?_⟩
    have h3 := h2 rfl
    simp only [Option.bind_some]
    intro h4
    split at h4
    ·rename_i b' hb'
     have : a.tmps.getD d undef = .bool b' := by
      rw [Array.getElem?_eq_some_iff] at hb'
      obtain ⟨hlt, hv⟩ := hb'
      simp [Array.getD, hlt, hv]
     rw [h3] at this
     simp [undef] at this
    ·cases h4
  ·cases h
 ·cases h
section
variable {P : Program} {T : Tab} {Γ : Ctx} {env : Env} {H L : List AObj} {o : Oper} {x : TV} {Q : Exit → Act → World → Prop} {ops : Array Oper} {rest : List Oper}
theorem J_opt {j : Nat} {b c : Bool} (hg : o.guard = some (j, b)) (hb : gB ops env j b = some c) (hd : dstOk Γ.N o.dst = true) (hn : NeedAll c (needE env (o.looksAt ops)))
  (h : c = true → OpR P o (strE env (o.looksAt ops)) H L x H L) (k : J Γ (putE env o.dst (.opt c x)) H L (wpList P ops Q rest)) : J Γ env H L (wpList P ops Q (o :: rest)) := by
 intro a w β s
 obtain ⟨h1, h2⟩ := gB_ok s.env hb
 unfold wpList
 cases hc : c with
 | true =>
  rw [if_pos (by simp [Region.wanted, hg, h1 hc])]
  refine .inl (h hc Γ.F w β a _ Q s.sim (zV6 hc s.env _ hn) fun w' β' u hS hst hx => k _ _ _ (s.next hd hS hst (.opt _ _ _ (fun _ => hx) fun h => ?_)))
  rw [hc] at h; cases h
 | false =>
  rw [if_neg (by simp [Region.wanted, hg, h2 hc])]
  refine k _ _ _ (s.next hd s.sim (Step.refl ..) (.opt _ _ _ (fun h => ?_) fun _ => rfl))
  rw [hc] at h; cases h
theorem zB5 {c a b : Operand} {v g p : Bool} (ho : o.op = .pick c a b) (hc : evA env c = .p (.bool v)) (ha : evA env a = .opt g (.p (.bool p))) (hb : evA env b = .p (.bool false)) (hg : v = true → g = true) :
  OpR P o env H L (.p (.bool (v && p))) H L :=
 zQ fun F w β ac _ he => by
  have h := zL he c
  rw [hc] at h
  have h1 := zL he a
  rw [ha] at h1
  have h2 := zL he b
  rw [hb] at h2
  refine ⟨if v then ac.eval a else ac.eval b, by cases v <;> simp [execOp, ho, h.bool_inv, asBool], ?_⟩
  cases v with
  | true => cases h1 with | opt _ _ _ h1 _ => simpa using h1 (hg rfl)
  | false => simpa using h2
theorem notId {v : Bool} (h : v = false) : (!v) = true := by rw [h]; rfl
theorem zFb {c a b : Operand} {v g p : Bool} (ho : o.op = .pick c a b) (hc : evA env c = .p (.bool v)) (ha : evA env a = .p (.bool true)) (hb : evA env b = .opt g (.p (.bool p))) (hg : v = false → g = true) :
  OpR P o env H L (.p (.bool (v || p))) H L :=
 zQ fun F w β ac _ he => by
  have h := zL he c
  rw [hc] at h
  have h1 := zL he a
  rw [ha] at h1
  have h2 := zL he b
  rw [hb] at h2
  refine ⟨if v then ac.eval a else ac.eval b, by cases v <;> simp [execOp, ho, h.bool_inv, asBool], ?_⟩
  cases v with
  | false => cases h2 with | opt _ _ _ h1 _ => simpa using h1 (hg rfl)
  | true => simpa using h1
theorem need1 {c : Bool} : NeedAll c [c] := ⟨id, trivial⟩
theorem need2 {c : Bool} : NeedAll c [c, c] := ⟨id, id, trivial⟩
end
section
variable {P : Program} {T : Tab} {env : Env} {H L : List AObj} {o : Oper} {x : TV}
def boxH (H : List AObj) (i : Nat) : Option (Nat × List TV) := match H[i]? with
 | some (.box t cs) => some (t, cs)
 | _ => none
theorem zEy {i t : Nat} {cs : List TV} (h : boxH H i = some (t, cs)) : H[i]? = some (.box t cs) := by
 unfold boxH at h
 split at h
 ·rename_i hi
  simp only [Option.some.injEq, Prod.mk.injEq] at h
  obtain ⟨rfl, rfl⟩ := h
  exact hi
 ·cases h
theorem zAq {w : World} {β : Hd → Nat} {F : Nat → Prop} {i off t : Nat} {cs : List TV} {v : Value} (hi : H[i]? = some (.box t cs)) (h : RepT w β ⟨H, L, F⟩ (.ad (.o i) off) v) : v = .pointer (some ⟨β (.o i), off, none⟩) := by
 cases h with | ad _ _ _ _ _ hv => exact hv _ hi rfl
theorem cellsH {w : World} {β : Hd → Nat} {F : Nat → Prop} {i t : Nat} {cs : List TV} (off : Nat) (hS : Sim w β ⟨H, L, F⟩) (hi : H[i]? = some (.box t cs)) : Cells w β ⟨H, L, F⟩ ⟨β (.o i), off, none⟩ (cs.drop off) := by
 obtain ⟨arr, h1, h2, h3⟩ := hS.objs (.o i) _ hi
 intro j y hj
 rw [List.getElem?_drop] at hj
 obtain ⟨u, hu, hr⟩ := h3 _ y hj
 exact ⟨u, by rw [Addr.add_lit, cell_of_row w _ _ _ _ _ h1]; exact hu, hr⟩
theorem zIl {i : Nat} {ob ob' : AObj} (hi : H[i]? = some ob) (hne : ob.off = false) (hx : ob'.ext = true) (h : ∀ F w β a, Sim w β ⟨H, L, F⟩ → EnvR w β ⟨H, L, F⟩ env a → ∃ u w', ((execOp a.eval o).run P w = .ok (.value u) w' ∨ (execOp a.eval o).run P w = .ok .skip w' ∧ u = undef) ∧
  w'.os = w.os ∧ w'.tape = w.tape ∧ w'.output = w.output ∧ w'.heap.size = w.heap.size ∧ (∀ b, b ≠ β (.o i) → w'.heap[b]? = w.heap[b]?) ∧ ObjGo w w' (β (.o i)) (β (.o i)) ob ob' ∧
   (Step w β ⟨H, L, F⟩ w' β ⟨H.set i ob', L, F⟩ → ObjOk w' β ⟨H.set i ob', L, F⟩ (β (.o i)) ob' ∧ RepT w' β ⟨H.set i ob', L, F⟩ x u)) : OpR P o env H L x (H.set i ob') L := by
 intro F w β a next Q hS he hn
 obtain ⟨u, w', h1, h2, h3, h4, h5, h6, h7, h8⟩ := h F w β a hS he
 have hlt : i < H.length := (List.getElem?_eq_some_iff.1 hi).1
 obtain ⟨s1, s2⟩ := upd (w' := w') (G' := ⟨H.set i ob', L, F⟩) (h := .o i) (o' := ob') (b' := β (.o i)) hS hi h2 h3 h4 (by omega) (fun b _ hb => h6 b hb) hne (.inl rfl) h7
  (fun k => by
   cases k with
   | l k => simp [Hp.get]
   | o j =>
    simp only [Hp.get, List.getElem?_set, Hd.o.injEq]
    by_cases e : i = j
    ·subst e; simp [hlt]
    ·rw [if_neg e, if_neg (fun q => e q.symm)]) rfl (fun q hq => by
     rcases List.mem_or_eq_of_mem_set hq with hq | rfl
     ·exact hS.ext q hq
     ·exact hx)
 have eβ : (fun k => if k = Hd.o i then β (.o i) else β k) = β := by
  funext k
  split
  ·rename_i e; rw [e]
  ·rfl
 rw [eβ] at s1 s2
 obtain ⟨h9, h10⟩ := h8 s1
 unfold Oper.wp
 rcases h1 with h1 | ⟨h1, rfl⟩
 ·rw [h1]; exact hn _ _ u (s2 h9) s1 h10
 ·rw [h1]; exact hn _ _ undef (s2 h9) s1 h10
theorem zT4 {t : TypeId} {y : Operand} {i off b : Nat} {cs : List TV} (hT : TabOk P T) (ho : o.op = .load t y) (hy : evA env y = .ad (.o i) off) (hi : H[i]? = some (.box b cs)) (hl : loadC T t (cs.drop off) = some x) : OpR P o env H L x H L :=
 zQ fun F w β a hS he => by
  have hp := zL he y
  rw [hy] at hp
  have hv := zAq hi hp
  obtain ⟨u, hu, hr⟩ := zFs (P := P) hT (cellsH off hS hi) hl
  exact ⟨u, by simp [execOp, ho, Instr.loadAt, Instr.sureAddr, hv, hu], hr⟩
theorem zR5 {t : TypeId} {y z : Operand} {i off : Nat} {b : TypeId} {cs ns : List TV} {ti : TyI} (hT : TabOk P T) (ho : o.op = .store t y z) (hy : evA env y = .ad (.o i) off) (hi : H[i]? = some (.box b cs)) (ht : tlk T t = some ti)
  (hz : tcells (evA env z) = some ns) (hn : Nat.beq ns.length ti.size = true) (hf : Nat.ble (off + ns.length) cs.length = true) (ha : allCell ns = true) (hx : (AObj.box b (spl cs off ns)).ext = true) : OpR P o env H L (.p .top) (H.set i (.box b (spl cs off ns))) L :=
 zIl hi rfl hx fun F w β a hS he => by
  obtain ⟨inf, u, ok⟩ := hT.get ht
  have hn := Nat.eq_of_beq_eq_true hn
  have hf := Nat.le_of_ble_eq_true hf
  have hv := zAd (zL he z) hz
  have hp := zL he y
  rw [hy] at hp
  obtain ⟨arr, h1, h2, h3⟩ := hS.objs (.o i) _ hi
  have hpv := zAq hi hp
  have hsz : (a.eval z).cells.size = ns.length := by rw [← hv.1]; simp
  have hrun := zAn (w := w) (off := off) ok h1 (v := a.eval z) (by omega) (by omega) (fun c hc => by
   obtain ⟨j, hj⟩ := List.getElem?_of_mem hc
   have hlt : j < ns.length := by rw [← hv.1]; exact (List.getElem?_eq_some_iff.1 hj).1
   exact zGn (hv.2 j _ c (List.getElem?_eq_getElem hlt) hj) (zDb ha (List.getElem?_eq_getElem hlt)))
  refine ⟨undef, w.setRow (β (.o i)) (arr.toList.take off ++ (a.eval z).cells.toList ++ arr.toList.drop (off + (a.eval z).cells.toList.length)).toArray, .inr ⟨by simp only [execOp, ho, Instr.storeAt, Instr.sureAddr, hpv, Sem.run_bind, Sem.run_pure, Result.andThen_ok]; rw [hrun]; rfl, rfl⟩, rfl, rfl, rfl, by simp, fun b hb => setRow_other w _ b _ hb, ?_, fun hst => ⟨?_, .p (.top _)⟩⟩
  ·simp [ObjGo, spl]; omega
  ·have hcs : RepL w β ⟨H, L, F⟩ cs arr.toList := ⟨by simp [h2], fun j x v hx hv => by
    obtain ⟨v', hv', hr⟩ := h3 j x hx
    simp at hv
    rw [hv] at hv'
    obtain rfl := Option.some.inj hv'
    exact hr⟩
   have := (zNk off hcs hv).mono hst
   refine zDw (vs := arr.toList.take off ++ ((a.eval z).cells.toList ++ arr.toList.drop (off + (a.eval z).cells.toList.length))) ?_ this
   rw [setRow_heap w _ _ _ _ _ h1]
   simp
theorem oprH_nil {y : Operand} {i off b : Nat} {cs : List TV} (ho : o.op = .nilCheck y) (hy : evA env y = .ad (.o i) off) (hi : H[i]? = some (.box b cs)) : OpR P o env H L (.ad (.o i) off) H L :=
 zQ fun F w β a hS he => by
  have hp := zL he y
  rw [hy] at hp
  exact ⟨a.eval y, by simp [execOp, ho, zAq hi hp], hp⟩
theorem zHl {s f off o1 i b : Nat} {cs : List TV} {j : TyI} {y : Operand} (hT : TabOk P T) (ho : o.op = .fieldAddr s y f) (hf : fieldOf T s f = some (off, j)) (hy : evA env y = .ad (.o i) o1) (hi : H[i]? = some (.box b cs)) : OpR P o env H L (.ad (.o i) (o1 + off)) H L :=
 zQ fun F w β a hS he => by
  obtain ⟨fs, fd, inf, u, h1, h2, rfl, ok, hne⟩ := zE3 hT hf
  have hp := zL he y
  rw [hy] at hp
  have hv := zAq hi hp
  refine ⟨.pointer (some ((⟨β (.o i), o1, none⟩ : Addr).add fd.offset)), by simp [execOp, ho, Instr.fieldAt, run_underlying h1, h2, Instr.sureAddr, hv, fieldPlace, ok.run_size, hne], ?_⟩
  rw [Addr.add_lit]
  exact .ad _ _ _ rfl ⟨_, hi⟩ fun o ho hb => by obtain rfl := Option.some.inj (hi.symm.trans ho); rfl
theorem zMz (hT : TabOk P T) {t : TypeId} {y z : Operand} {n e i off b : Nat} {cs : List TV} {te : TyI} {k : IntKind} {j : Int} (ho : o.op = .indexAddr t y z) (hd : tyD T t = .array n e) (he : tlk T e = some te) (hz : evA env z = .p (.int k j))
  (hy : evA env y = .ad (.o i) off) (hi : H[i]? = some (.box b cs)) (h0 : 0 ≤ j) (hj : j < n) : OpR P o env H L (.ad (.o i) (off + j.toNat * te.size)) H L :=
 zQ fun F w β a hS hen => by
  obtain ⟨ud, h1, h2⟩ := zV hT (t := t) (by rw [hd]; simp)
  rw [hd] at h2
  obtain rfl := jC h2
  obtain ⟨inf, u, ok⟩ := hT.get he
  have hzv := zL hen z
  rw [hz] at hzv
  have hzv := hzv.int_inv
  have hp := zL hen y
  rw [hy] at hp
  have hv := zAq hi hp
  refine ⟨.pointer (some ((⟨β (.o i), off, none⟩ : Addr).add (j.toNat * te.size))), ?_, ?_⟩
  ·simp only [execOp, ho, hzv, hv, Instr.indexAt, asIntOf, Instr.sureAddr, Sem.run_bind, Sem.run_pure, run_underlying h1, Result.andThen_ok]
   simp [h0, hj, ok.run_size]
  ·rw [Addr.add_lit]
   exact .ad _ _ _ rfl ⟨_, hi⟩ fun o ho hb => by obtain rfl := Option.some.inj (hi.symm.trans ho); rfl
theorem zRm {op : BinOp} {t t2 : TypeId} {y z : Operand} {i off b : Nat} {cs : List TV} (hT : TabOk P T) (ho : o.op = .binOp op t y z t2) (hd : tyD T t = .ptr) (hy : evA env y = .ad (.o i) off) (hi : H[i]? = some (.box b cs)) (hz : evA env z = .p .nilp) (hx : eqA op false = some x) : OpR P o env H L x H L :=
 zQ fun F w β a hS he => by
  have hp := zL he y
  rw [hy] at hp
  have hv := zAq hi hp
  have hq := zL he z
  rw [hz] at hq
  have hv2 : a.eval z = .pointer none := by
   generalize a.eval z = q at hq
   cases hq with | p h => cases h; rfl
  obtain ⟨e, h1⟩ := zGu hT hd
  obtain ⟨c, rfl, h3⟩ := jR (P := P) (w := w) (t := t) hx (zB2 h1 (.inr rfl)) (zAa t (some ⟨β (.o i), off, none⟩) none) (j7 ..)
  refine ⟨.bool c, ?_, .p (.bool ..)⟩
  simp only [execOp, ho, hv, hv2, Sem.run_bind]
  rw [eqGuard_at_pointer]
  simp [h3]
def stepH (T : Tab) (env : Env) (H : List AObj) : Op → Option (TV × List AObj)
 | .load t y => match evA env y with
  | .ad (.o i) off => match boxH H i with
   | some (_, cs) => match loadC T t (cs.drop off) with
    | some x => some (x, H)
    | none => none
   | none => none
  | _ => none
 | .store t y z => match evA env y, tlk T t, tcells (evA env z) with
  | .ad (.o i) off, some ti, some ns => match boxH H i with
   | some (b, cs) => match Nat.beq ns.length ti.size, Nat.ble (off + ns.length) cs.length, allCell ns, (AObj.box b (spl cs off ns)).ext with
    | true, true, true, true => some (.p .top, H.set i (.box b (spl cs off ns)))
    | _, _, _, _ => none
   | none => none
  | _, _, _ => none
 | .nilCheck y => match evA env y with
  | .ad (.o i) off => match boxH H i with
   | some _ => some (.ad (.o i) off, H)
   | none => none
  | _ => none
 | .fieldAddr s y f => match fieldOf T s f with
  | some (off, _) => match evA env y with
   | .ad (.o i) o1 => match boxH H i with
    | some _ => some (.ad (.o i) (o1 + off), H)
    | none => none
   | _ => none
  | none => none
 | .binOp op t y z _ => match evA env y, evA env z, tyD T t with
  | .ad (.o i) _, .p .nilp, .ptr => match boxH H i, eqA op false with
   | some _, some x => some (x, H)
   | _, _ => none
  | _, _, _ => none
 | .indexAddr t y z => match evA env y, evA env z, tyD T t with
  | .ad (.o i) off, .p (.int _ j), .array n e => match boxH H i, tlk T e, decide (0 ≤ j) && decide (j < n) with
   | some _, some te, true => some (.ad (.o i) (off + j.toNat * te.size), H)
   | _, _, _ => none
  | _, _, _ => none
 | _ => none
theorem j5 (hT : TabOk P T) {H' : List AObj} (h : stepH T env H o.op = some (x, H')) : OpR P o env H L x H' L := by
 generalize ho : o.op = op at h
 unfold stepH at h
 split at h
 ·split at h
  ·rename_i hy
   split at h
   ·rename_i hb
    split at h
    ·rename_i hl
     simp only [Option.some.injEq, Prod.mk.injEq] at h
     obtain ⟨rfl, rfl⟩ := h
     exact zT4 hT ho hy (zEy hb) hl
    ·cases h
   ·cases h
  ·cases h
 ·split at h
  ·rename_i hy ht hz
   split at h
   ·rename_i hb
    split at h
    ·rename_i h1 h2 h3 h4
     simp only [Option.some.injEq, Prod.mk.injEq] at h
     obtain ⟨rfl, rfl⟩ := h
     exact zR5 hT ho hy (zEy hb) ht hz h1 h2 h3 h4
    ·cases h
   ·cases h
  ·cases h
 ·split at h
  ·rename_i hy
   split at h
   ·rename_i hb
    simp only [Option.some.injEq, Prod.mk.injEq] at h
    obtain ⟨rfl, rfl⟩ := h
    exact oprH_nil ho hy (zEy hb)
   ·cases h
  ·cases h
 ·split at h
  ·rename_i hf
   split at h
   ·rename_i hy
    split at h
    ·rename_i hb
     simp only [Option.some.injEq, Prod.mk.injEq] at h
     obtain ⟨rfl, rfl⟩ := h
     exact zHl hT ho hf hy (zEy hb)
    ·cases h
   ·cases h
  ·cases h
 ·split at h
  ·rename_i hy hz hd
   split at h
   ·rename_i hb hx
    simp only [Option.some.injEq, Prod.mk.injEq] at h
    obtain ⟨rfl, rfl⟩ := h
    exact zRm hT ho hd hy (zEy hb) hz hx
   ·cases h
  ·cases h
 ·split at h
  ·rename_i hy hz hd
   split at h
   ·rename_i hb he hj
    simp only [Option.some.injEq, Prod.mk.injEq] at h
    obtain ⟨rfl, rfl⟩ := h
    simp only [Bool.and_eq_true, decide_eq_true_eq] at hj
    exact zMz hT ho hd he hz hy (zEy hb) hj.1 hj.2
   ·cases h
  ·cases h
 ·cases h
def stepG (T : Tab) (env : Env) (H : List AObj) (o : Op) : Option (TV × List AObj) := nrm (stepH T env H o)
theorem zO (hT : TabOk P T) {H' : List AObj} (h : stepG T env H o.op = some (x, H')) : OpR P o env H L x H' L := by
 unfold stepG at h
 rw [nrm_eq] at h
 exact j5 hT h
end
def hdEq : Hd → Hd → Bool
 | .o i, .o j => Nat.beq i j
 | .l i, .l j => Nat.beq i j
 | _, _ => false
theorem zP8 {a b : Hd} : hdEq a b = true ↔ a = b := by
 cases a <;> cases b <;> simp [hdEq]
def idxH : List Hd → Nat → Hd → Option Nat
 | [], _, _ => none
 | a :: r, i, h => match hdEq a h with
  | true => some i
  | false => idxH r (i + 1) h
theorem zEc : ∀ {σ : List Hd} {i j : Nat} {h : Hd}, idxH σ i h = some j → i ≤ j ∧ σ[j - i]? = some h
 | [], _, _, _, e => by simp [idxH] at e
 | a :: r, i, j, h, e => by
  simp only [idxH] at e
  split at e
  ·rename_i he
   obtain rfl := Option.some.inj e
   exact ⟨Nat.le_refl _, by simp [zP8.1 he]⟩
  ·obtain ⟨h1, h2⟩ := zEc e
   exact ⟨by omega, by rw [show j - i = (j - (i + 1)) + 1 by omega]; simpa using h2⟩
theorem zD9 : ∀ {σ : List Hd} {i : Nat} {h : Hd}, idxH σ i h = none → h ∉ σ
 | [], _, _, _ => by simp
 | a :: r, i, h, e => by
  simp only [idxH] at e
  split at e
  ·cases e
  ·rename_i he
   simp only [List.mem_cons, not_or]
   exact ⟨fun q => absurd (zP8.2 q.symm) (by rw [he]; simp), zD9 e⟩
def nodupH : List Hd → Bool
 | [] => true
 | a :: r => (idxH r 0 a).isNone && nodupH r
theorem nodup_inj : ∀ {σ : List Hd} {i j : Nat} {h : Hd}, nodupH σ = true → σ[i]? = some h → σ[j]? = some h → i = j
 | [], _, _, _, _, h, _ => by simp at h
 | a :: r, i, j, h, hn, h1, h2 => by
  simp only [nodupH, Bool.and_eq_true, Option.isNone_iff_eq_none] at hn
  have ha := zD9 hn.1
  cases i with
  | zero =>
   simp at h1; subst h1
   cases j with
   | zero => rfl
   | succ j => simp at h2; exact absurd (List.mem_of_getElem? h2) ha
  | succ i =>
   cases j with
   | zero =>
    simp only [List.getElem?_cons_zero, Option.some.injEq] at h2
    subst h2
    exact absurd (List.mem_of_getElem? (by simpa using h1)) ha
   | succ j => rw [nodup_inj (i := i) (j := j) (h := h) hn.2 (by simpa using h1) (by simpa using h2)]
theorem idxH_of {σ : List Hd} {j : Nat} {h : Hd} (hn : nodupH σ = true) (hj : σ[j]? = some h) : idxH σ 0 h = some j := by
 cases hx : idxH σ 0 h with
 | none => exact absurd (List.mem_of_getElem? hj) (zD9 hx)
 | some i =>
  obtain ⟨_, h2⟩ := zEc hx
  rw [nodup_inj hn hj (by simpa using h2)]
def Hd.ren (σ : List Hd) (n g : Nat) : Hd → Hd
 | .o j => match σ[j]? with
  | some h => h
  | none => .l (n + (j - σ.length))
 | .l i => .l (n + g + i)
def TV.ren (σ : List Hd) (n g : Nat) : TV → TV
 | .p x => .p x
 | .ad h off => .ad (h.ren σ n g) off
 | .sl h a b c => .sl (h.ren σ n g) a b c
 | .el s e i off => .el (s.ren σ n g) e i off
 | .agg l => .agg (renL σ n g l)
 | .tup l => .tup (renL σ n g l)
 | .fn f l => .fn f (renL σ n g l)
 | .opt c x => .opt c (x.ren σ n g)
where renL (σ : List Hd) (n g : Nat) : List TV → List TV
 | [] => []
 | x :: r => x.ren σ n g :: renL σ n g r
def AObj.ren (σ : List Hd) (n g : Nat) : AObj → AObj
 | .box T cells => .box T (TV.ren.renL σ n g cells)
 | o => o
theorem jG (σ : List Hd) (n g : Nat) : ∀ (l : List TV) (i : Nat), (TV.ren.renL σ n g l)[i]? = (l[i]?).map (TV.ren σ n g)
 | [], i => by simp [TV.ren.renL]
 | x :: r, 0 => by simp [TV.ren.renL]
 | x :: r, i + 1 => by simpa [TV.ren.renL] using jG σ n g r i
theorem yK (σ : List Hd) (n g : Nat) : ∀ (l : List TV), (TV.ren.renL σ n g l).length = l.length
 | [] => rfl
 | x :: r => by simp [TV.ren.renL, yK σ n g r]
theorem AObj.ren_off (σ : List Hd) (n g : Nat) (o : AObj) : (o.ren σ n g).off = false ↔ o.off = false := by cases o <;> simp [AObj.ren, AObj.off]
theorem AObj.ren_isMap (σ : List Hd) (n g : Nat) (o : AObj) : (o.ren σ n g).isMap = o.isMap := by cases o <;> rfl
theorem AObj.ren_isBox (σ : List Hd) (n g : Nat) (o : AObj) : (o.ren σ n g).isBox = o.isBox := by cases o <;> rfl
theorem ObjGo.ren {w w' : World} {b b' : Nat} {o o' : AObj} (σ : List Hd) (n g n' g' : Nat) (h : ObjGo w w' b b' o o') : ObjGo w w' b b' (o.ren σ n g) (o'.ren σ n' g') := by
 cases o <;> cases o' <;> simp_all [ObjGo, AObj.ren, yK]
def Hd.clo (k : Nat) : Hd → Bool
 | .o j => Nat.blt j k
 | .l _ => false
def TV.clo (k : Nat) : TV → Bool
 | .p _ => true
 | .ad h _ => h.clo k
 | .sl h _ _ _ => h.clo k
 | .el _ _ _ _ => false
 | .agg l => cloL k l
 | .tup l => cloL k l
 | .fn _ l => cloL k l
 | .opt _ x => x.clo k
where cloL (k : Nat) : List TV → Bool
 | [] => true
 | x :: r => x.clo k && cloL k r
def AObj.clo (k : Nat) : AObj → Bool
 | .box _ cells => TV.clo.cloL k cells
 | _ => true
theorem zC1 {k : Nat} : ∀ {l : List TV} {i : Nat} {x : TV}, TV.clo.cloL k l = true → l[i]? = some x → x.clo k = true
 | [], i, x, _, h => by simp at h
 | y :: r, 0, x, h, hx => by
  simp only [TV.clo.cloL, Bool.and_eq_true] at h
  obtain rfl : y = x := by simpa using hx
  exact h.1
 | y :: r, i + 1, x, h, hx => by
  simp only [TV.clo.cloL, Bool.and_eq_true] at h
  exact zC1 h.2 (by simpa using hx)
mutual
theorem zVk (k : Nat) : ∀ (x : TV), x.clo k = true → x.ext = true
 | .p _, _ => rfl
 | .ad (.o _) _, _ => rfl
 | .ad (.l _) _, h => by simp [TV.clo, Hd.clo] at h
 | .sl (.o _) _ _ _, _ => rfl
 | .sl (.l _) _ _ _, h => by simp [TV.clo, Hd.clo] at h
 | .el .., h => by simp [TV.clo] at h
 | .agg l, h => by simp only [TV.ext]; exact zDr k l (by simpa [TV.clo] using h)
 | .tup l, h => by simp only [TV.ext]; exact zDr k l (by simpa [TV.clo] using h)
 | .fn f l, h => by simp only [TV.ext]; exact zDr k l (by simpa [TV.clo] using h)
 | .opt g x, h => by simp only [TV.ext]; exact zVk k x (by simpa [TV.clo] using h)
theorem zDr (k : Nat) : ∀ (l : List TV), TV.clo.cloL k l = true → TV.ext.extL l = true
 | [], _ => rfl
 | x :: r, h => by
  simp only [TV.clo.cloL, Bool.and_eq_true] at h
  simp only [TV.ext.extL, Bool.and_eq_true]
  exact ⟨zVk k x h.1, zDr k r h.2⟩
end
def Lend (H L : List AObj) (σ0 : List Hd) : List Hd → List AObj → Prop
 | [], [] => True
 | h :: r, ob :: obs => ((⟨H, L, noF⟩ : Hp).get h = some (ob.ren σ0 0 0) ∧ ob.clo σ0.length = true) ∧ Lend H L σ0 r obs
 | _, _ => False
theorem Lend.len {H L : List AObj} {σ0 : List Hd} : ∀ {σ : List Hd} {H2 : List AObj}, Lend H L σ0 σ H2 → H2.length = σ.length
 | [], [], _ => rfl
 | _ :: _, _ :: _, h => by simp [Lend.len h.2]
theorem Lend.get {H L : List AObj} {σ0 : List Hd} {F : Nat → Prop} : ∀ {σ : List Hd} {H2 : List AObj}, Lend H L σ0 σ H2 → ∀ {j : Nat} {ob : AObj}, H2[j]? = some ob → ∃ h, σ[j]? = some h ∧ (⟨H, L, F⟩ : Hp).get h = some (ob.ren σ0 0 0) ∧ ob.clo σ0.length = true
 | [], [], _, j, ob, hj => by simp at hj
 | h :: r, o :: obs, hl, 0, ob, hj => by
  obtain rfl : o = ob := by simpa using hj
  exact ⟨h, by simp, by cases h <;> exact hl.1.1, hl.1.2⟩
 | h :: r, o :: obs, hl, j + 1, ob, hj => by
  obtain ⟨h', h1, h2⟩ := Lend.get (F := F) hl.2 (show obs[j]? = some ob by simpa using hj)
  exact ⟨h', by simpa using h1, h2⟩
section
variable {w : World} {β : Hd → Nat} {H L H2 : List AObj} {F : Nat → Prop} {σ : List Hd}
def lendSF (β : Hd → Nat) (G : Hp) (σ : List Hd) (b : Nat) : Prop := G.F b ∨ ∃ h, G.live h ∧ h ∉ σ ∧ β h = b
def lendSβ (β : Hd → Nat) (σ : List Hd) : Hd → Nat
 | .o j => match σ[j]? with
  | some h => β h
  | none => 0
 | .l _ => 0
theorem zEz (hl : Lend H L σ σ H2) (b : Nat) (h : Free β ⟨H, L, F⟩ b) : Free (lendSβ β σ) ⟨H2, [], lendSF β ⟨H, L, F⟩ σ⟩ b := by
 obtain ⟨h1, h2⟩ := h
 refine ⟨fun hb => ?_, fun k hk => ?_⟩
 ·rcases hb with hb | ⟨k, hk, _, rfl⟩
  ·exact h1 hb
  ·exact h2 k hk rfl
 ·obtain ⟨o, ho, hne⟩ := hk
  cases k with
  | l i => simp [Hp.get] at ho
  | o j =>
   obtain ⟨h', e1, e2, _⟩ := hl.get (F := F) (show H2[j]? = some o from ho)
   simp only [lendSβ, e1]
   exact h2 h' ⟨_, e2, (AObj.ren_off _ _ _ _).2 hne⟩
theorem RepT.lendS (hl : Lend H L σ σ H2) {y : TV} {v : Value} (h : RepT w β ⟨H, L, F⟩ y v) : ∀ x : TV, x.ren σ 0 0 = y → x.clo σ.length = true → RepT w (lendSβ β σ) ⟨H2, [], lendSF β ⟨H, L, F⟩ σ⟩ x v := by
 have hin : ∀ j, j < σ.length → ∃ h o, σ[j]? = some h ∧ H2[j]? = some o ∧ (⟨H, L, F⟩ : Hp).get h = some (o.ren σ 0 0) := fun j hj => by
  obtain ⟨o, ho⟩ : ∃ o, H2[j]? = some o := ⟨H2[j]'(by rw [hl.len]; exact hj), List.getElem?_eq_getElem _⟩
  obtain ⟨h', e1, e2, _⟩ := hl.get (F := F) ho
  exact ⟨h', o, e1, ho, e2⟩
 induction h with
 | p h =>
  intro x hx hc
  cases x <;> simp [TV.ren] at hx
  subst hx
  exact .p (h.mono (Nat.le_refl _) fun b _ hb => ⟨rfl, zEz hl b hb⟩)
 | ad k off v h1 hlv hv =>
  intro x hx hc
  cases x <;> simp [TV.ren] at hx
  rename_i k2 off2
  obtain ⟨rfl, rfl⟩ := hx
  cases k2 with
  | l i => simp [TV.clo, Hd.clo] at hc
  | o j =>
   obtain ⟨h', o, e1, e2, e3⟩ := hin j (by simpa [TV.clo, Hd.clo] using hc)
   refine .ad _ _ _ h1 ⟨o, e2⟩ fun o' ho' hb => ?_
   obtain rfl : o = o' := by
    have : H2[j]? = some o' := ho'
    rw [e2] at this; exact Option.some.inj this
   simp only [Hd.ren, e1] at hv
   have := hv _ e3 (by rw [AObj.ren_isBox]; exact hb)
   rw [AObj.ren_isMap] at this
   simpa [lendSβ, e1] using this
 | sl k n st len v h1 hlv hv =>
  intro x hx hc
  cases x <;> simp [TV.ren] at hx
  rename_i k2 n2 st2 len2
  obtain ⟨rfl, rfl, rfl, rfl⟩ := hx
  cases k2 with
  | l i => simp [TV.clo, Hd.clo] at hc
  | o j =>
   obtain ⟨h', o, e1, e2, e3⟩ := hin j (by simpa [TV.clo, Hd.clo] using hc)
   simp only [Hd.ren, e1] at hv hlv
   refine .sl _ _ _ _ _ h1 ⟨o, e2, fun T b e rows hr => ?_⟩ fun T b e rows hr hlen => ?_
   ·subst hr
    obtain ⟨o1, g1, g2⟩ := hlv
    rw [e3] at g1
    obtain rfl := Option.some.inj g1
    exact g2 _ _ _ _ rfl
   ·have hr' : H2[j]? = some (.arr T b e rows) := hr
    rw [e2] at hr'
    obtain rfl := Option.some.inj hr'
    have := hv _ _ _ _ e3 hlen
    simpa [lendSβ, e1] using this
 | el e i off a len c _ hi ih =>
  intro x hx hc
  cases x <;> simp [TV.ren] at hx
  simp [TV.clo] at hc
 | agg xs vs hlen hr ih =>
  intro x hx hc
  cases x <;> simp [TV.ren] at hx
  subst hx
  refine .agg _ _ (by rw [hlen, yK]) fun i x v h1 h2 => ?_
  exact ih i (x.ren σ 0 0) v (by rw [jG, h1]; rfl) h2 x rfl (zC1 (by simpa [TV.clo] using hc) h1)
 | tup xs vs hlen hr ih =>
  intro x hx hc
  cases x <;> simp [TV.ren] at hx
  subst hx
  refine .tup _ _ (by rw [hlen, yK]) fun i x v h1 h2 => ?_
  exact ih i (x.ren σ 0 0) v (by rw [jG, h1]; rfl) h2 x rfl (zC1 (by simpa [TV.clo] using hc) h1)
 | fn f xs vs hlen hr ih =>
  intro x hx hc
  cases x <;> simp [TV.ren] at hx
  obtain ⟨rfl, rfl⟩ := hx
  refine .fn _ _ _ (by rw [hlen, yK]) fun i x v h1 h2 => ?_
  exact ih i (x.ren σ 0 0) v (by rw [jG, h1]; rfl) h2 x rfl (zC1 (by simpa [TV.clo] using hc) h1)
 | opt g y v _ h2 ih =>
  intro x hx hc
  cases x <;> simp [TV.ren] at hx
  obtain ⟨rfl, rfl⟩ := hx
  exact .opt _ _ _ (fun hg => ih hg _ rfl (by simpa [TV.clo] using hc)) h2
theorem Sim.lendS (hl : Lend H L σ σ H2) (hn : nodupH σ = true) (h : Sim w β ⟨H, L, F⟩) : Sim w (lendSβ β σ) ⟨H2, [], lendSF β ⟨H, L, F⟩ σ⟩ := by
 have live2 : ∀ {k : Hd}, (⟨H2, [], lendSF β ⟨H, L, F⟩ σ⟩ : Hp).live k → ∃ j h', k = .o j ∧ σ[j]? = some h' ∧ (⟨H, L, F⟩ : Hp).live h' ∧ lendSβ β σ k = β h' := fun {k} hk => by
  obtain ⟨o, ho, hne⟩ := hk
  cases k with
  | l i => simp [Hp.get] at ho
  | o j =>
   obtain ⟨h', e1, e2, _⟩ := hl.get (F := F) (show H2[j]? = some o from ho)
   exact ⟨j, h', rfl, e1, ⟨_, e2, (AObj.ren_off _ _ _ _).2 hne⟩, by simp [lendSβ, e1]⟩
 refine ⟨fun k o ho => ?_, fun k j hk hj he => ?_, fun o ho => ?_, fun k hk hb => ?_, fun b hb => ?_⟩
 ·cases k with
  | l i => simp [Hp.get] at ho
  | o j =>
   obtain ⟨h', e1, e2, e3⟩ := hl.get (F := F) (show H2[j]? = some o from ho)
   have := h.objs h' _ e2
   rw [show lendSβ β σ (.o j) = β h' by simp [lendSβ, e1]]
   cases o with
   | dead => trivial
   | box T cells =>
    obtain ⟨cs, h1, h2, h4⟩ := this
    refine ⟨cs, h1, by rw [h2, yK], fun i x hi => ?_⟩
    obtain ⟨v, hv, hr⟩ := h4 i (x.ren σ 0 0) (by rw [jG, hi]; rfl)
    exact ⟨v, hv, hr.lendS hl x rfl (zC1 (by simpa [AObj.clo] using e3) hi)⟩
   | arr T app e rows =>
    refine ⟨this.1, fun hoff => ?_⟩
    obtain ⟨cs, fr, h1, h2, h3, h4, h5, h6, h7⟩ := this.2 hoff
    exact ⟨cs, fr, h1, h2, h3, h4, h5, h6, fun i j r x hr hx => let ⟨v, hv, hr'⟩ := h7 i j r x hr hx; ⟨v, hv, hr'.mono (Nat.le_refl _) fun b _ hb => ⟨rfl, zEz hl b hb⟩⟩⟩
   | raw x => exact this
 ·obtain ⟨i1, h1, rfl, e1, l1, b1⟩ := live2 hk
  obtain ⟨i2, h2, rfl, e2, l2, b2⟩ := live2 hj
  rw [b1, b2] at he
  have := h.inj h1 h2 l1 l2 he
  subst this
  rw [nodup_inj hn e1 e2]
 ·obtain ⟨j, hj⟩ := List.getElem?_of_mem ho
  obtain ⟨h', e1, e2, e3⟩ := hl.get (F := F) hj
  cases o with
  | box T cells => exact zDr _ _ (by simpa [AObj.clo] using e3)
  | _ => rfl
 ·obtain ⟨i1, h1, rfl, e1, l1, b1⟩ := live2 hk
  rw [b1] at hb
  rcases hb with hb | ⟨h2, l2, hni, he⟩
  ·exact h.disj h1 l1 hb
  ·have := h.inj h2 h1 l2 l1 he
   subst this
   exact hni (List.mem_of_getElem? e1)
 ·rcases hb with hb | ⟨h2, l2, hni, rfl⟩
  ·exact h.flt b hb
  ·exact h.lt l2
def mapI (f : Nat → AObj → AObj) : Nat → List AObj → List AObj
 | _, [] => []
 | i, x :: r => f i x :: mapI f (i + 1) r
theorem zJ5 (f : Nat → AObj → AObj) : ∀ (l : List AObj) (i k : Nat), (mapI f i l)[k]? = (l[k]?).map (f (i + k))
 | [], _, _ => by simp [mapI]
 | x :: r, i, 0 => by simp [mapI]
 | x :: r, i, k + 1 => by simp [mapI, zJ5 f r, Nat.add_assoc, Nat.add_comm 1 k]
theorem zPi (f : Nat → AObj → AObj) : ∀ (l : List AObj) (i : Nat), (mapI f i l).length = l.length
 | [], _ => rfl
 | x :: r, i => by simp [mapI, zPi f r]
def outO (σ : List Hd) (H3 : List AObj) (n g : Nat) (h : Hd) (old : AObj) : AObj := match idxH σ 0 h with
 | some j => match H3[j]? with
  | some ob => ob.ren σ n g
  | none => old
 | none => old
def renM (σ : List Hd) (n g : Nat) : List AObj → List AObj
 | [] => []
 | x :: r => x.ren σ n g :: renM σ n g r
theorem zI4 (σ : List Hd) (n g : Nat) : ∀ (l : List AObj) (i : Nat), (renM σ n g l)[i]? = (l[i]?).map (AObj.ren σ n g)
 | [], i => by simp [renM]
 | x :: r, 0 => by simp [renM]
 | x :: r, i + 1 => by simpa [renM] using zI4 σ n g r i
theorem zOs (σ : List Hd) (n g : Nat) : ∀ (l : List AObj), (renM σ n g l).length = l.length
 | [] => rfl
 | x :: r => by simp [renM, zOs σ n g r]
def outH (σ : List Hd) (H3 : List AObj) (n g : Nat) (H : List AObj) : List AObj := mapI (fun k => outO σ H3 n g (.o k)) 0 H
def outL (σ : List Hd) (H3 news : List AObj) (n g : Nat) (L : List AObj) : List AObj :=
 mapI (fun k => outO σ H3 n g (.l k)) 0 L ++ (renM σ n g (H3.drop σ.length) ++ renM σ n g news)
def joinSβ (β β1 : Hd → Nat) (σ : List Hd) (n g : Nat) (h : Hd) : Nat := match idxH σ 0 h with
 | some j => β1 (.o j)
 | none => match h with
  | .o k => β (.o k)
  | .l i => if i < n then β (.l i) else if i < n + g then β1 (.o (σ.length + (i - n))) else β1 (.l (i - n - g))
variable {w' : World} {β1 : Hd → Nat} {H3 news : List AObj}
abbrev backG (H L H3 news : List AObj) (F : Nat → Prop) (σ : List Hd) (n g : Nat) : Hp := ⟨outH σ H3 n g H, outL σ H3 news n g L, F⟩
structure BackC (β β1 : Hd → Nat) (H L H3 news : List AObj) (F : Nat → Prop) (σ : List Hd) (n g : Nat) : Prop where
 up : ∀ (k : Hd) (o : AObj), (⟨H3, news, lendSF β ⟨H, L, F⟩ σ⟩ : Hp).get k = some o → (backG H L H3 news F σ n g).get (k.ren σ n g) = some (o.ren σ n g) ∧ joinSβ β β1 σ n g (k.ren σ n g) = β1 k
 down : ∀ (h : Hd) (o : AObj), (backG H L H3 news F σ n g).get h = some o → (∃ k o1, h = k.ren σ n g ∧ (⟨H3, news, lendSF β ⟨H, L, F⟩ σ⟩ : Hp).get k = some o1 ∧ o = o1.ren σ n g) ∨ (h ∉ σ ∧ (⟨H, L, F⟩ : Hp).get h = some o ∧ joinSβ β β1 σ n g h = β h)
 old : ∀ (h : Hd) (o : AObj), h ∉ σ → (⟨H, L, F⟩ : Hp).get h = some o → (backG H L H3 news F σ n g).get h = some o ∧ joinSβ β β1 σ n g h = β h
theorem zIp {σ : List Hd} {h : Hd} (hh : h ∉ σ) : idxH σ 0 h = none := by
 cases hx : idxH σ 0 h with
 | none => rfl
 | some j => exact absurd (List.mem_of_getElem? (by simpa using (zEc hx).2)) hh
theorem backC (hl : Lend H L σ σ H2) (hn : nodupH σ = true) (hH : σ.length ≤ H3.length) {g : Nat} (hg : H3.length = σ.length + g) {n : Nat} (hnL : n = L.length) : BackC β β1 H L H3 news F σ n g := by
 subst hnL
 have inG : ∀ {j : Nat} {h : Hd}, σ[j]? = some h → ∃ o, (⟨H, L, F⟩ : Hp).get h = some o := fun {j h} hj => by
  obtain ⟨o, ho⟩ : ∃ o, H2[j]? = some o := ⟨H2[j]'(by rw [hl.len]; exact (List.getElem?_eq_some_iff.1 hj).1), List.getElem?_eq_getElem _⟩
  obtain ⟨h', e1, e2, _⟩ := hl.get (F := F) ho
  rw [hj] at e1
  obtain rfl := Option.some.inj e1
  exact ⟨_, e2⟩
 have lnot : ∀ i, L.length ≤ i → Hd.l i ∉ σ := fun i hi hm => by
  obtain ⟨j, hj⟩ := List.getElem?_of_mem hm
  obtain ⟨o, ho⟩ := inG hj
  simp [Hp.get, List.getElem?_eq_none hi] at ho
 have hlenL : (mapI (fun k => outO σ H3 L.length g (.l k)) 0 L).length = L.length := zPi ..
 have hd : (renM σ L.length g (H3.drop σ.length)).length = g := by rw [zOs, List.length_drop]; omega
 have getMid : ∀ m, m < g → (backG H L H3 news F σ L.length g).get (.l (L.length + m)) = (H3[σ.length + m]?).map (AObj.ren σ L.length g) := fun m hm => by
  simp only [Hp.get, outL]
  rw [List.getElem?_append_right (by rw [hlenL]; omega), hlenL, List.getElem?_append_left (by rw [hd]; omega), zI4, List.getElem?_drop, show L.length + m - L.length = m by omega]
 have getNew : ∀ i, (backG H L H3 news F σ L.length g).get (.l (L.length + g + i)) = (news[i]?).map (AObj.ren σ L.length g) := fun i => by
  simp only [Hp.get, outL]
  rw [List.getElem?_append_right (by rw [hlenL]; omega), hlenL, List.getElem?_append_right (by rw [hd]; omega), hd, zI4, show L.length + g + i - L.length - g = i by omega]
 have getOld : ∀ h, (∀ i, h = .l i → i < L.length) → (backG H L H3 news F σ L.length g).get h = ((⟨H, L, F⟩ : Hp).get h).map (outO σ H3 L.length g h) := fun h hi => by
  cases h with
  | o k => simp only [Hp.get, outH]; rw [zJ5]; simp
  | l i =>
   have := hi i rfl
   simp only [Hp.get, outL]
   rw [List.getElem?_append_left (by rw [hlenL]; exact this), zJ5]; simp
 refine ⟨fun k o ho => ?_, fun h o ho => ?_, fun h o hns ho => ?_⟩
 ·cases k with
  | o j =>
   have hj : H3[j]? = some o := ho
   have hlt : j < H3.length := (List.getElem?_eq_some_iff.1 hj).1
   by_cases hs : j < σ.length
   ·obtain ⟨h, hh⟩ : ∃ h, σ[j]? = some h := ⟨σ[j], List.getElem?_eq_getElem hs⟩
    obtain ⟨o', ho'⟩ := inG hh
    have hi := idxH_of hn hh
    simp only [Hd.ren, hh]
    refine ⟨?_, by simp [joinSβ, hi]⟩
    rw [getOld h (fun i e => by subst e; exact (List.getElem?_eq_some_iff.1 (show L[i]? = some o' from ho')).1), ho']
    simp [outO, hi, hj]
   ·have hh : σ[j]? = none := List.getElem?_eq_none (by omega)
    simp only [Hd.ren, hh]
    refine ⟨?_, ?_⟩
    ·rw [getMid _ (by omega), show σ.length + (j - σ.length) = j by omega, hj]; rfl
    ·have := zIp (lnot (L.length + (j - σ.length)) (by omega))
     simp only [joinSβ, this]
     rw [if_neg (by omega), if_pos (by omega), show σ.length + (L.length + (j - σ.length) - L.length) = j by omega]
  | l i =>
   have hi : news[i]? = some o := ho
   simp only [Hd.ren]
   refine ⟨by rw [getNew, hi]; rfl, ?_⟩
   have := zIp (lnot (L.length + g + i) (by omega))
   simp only [joinSβ, this]
   rw [if_neg (by omega), if_neg (by omega), show L.length + g + i - L.length - g = i by omega]
 ·have old : (∀ i, h = .l i → i < L.length) → (∃ k o1, h = k.ren σ L.length g ∧ (⟨H3, news, lendSF β ⟨H, L, F⟩ σ⟩ : Hp).get k = some o1 ∧ o = o1.ren σ L.length g) ∨ (h ∉ σ ∧ (⟨H, L, F⟩ : Hp).get h = some o ∧ joinSβ β β1 σ L.length g h = β h) := fun hi => by
   rw [getOld h hi] at ho
   obtain ⟨o', ho', rfl⟩ := Option.map_eq_some_iff.1 ho
   cases hx : idxH σ 0 h with
   | some j =>
    have hj := (zEc hx).2
    simp only [Nat.sub_zero] at hj
    have hlt : j < σ.length := (List.getElem?_eq_some_iff.1 hj).1
    obtain ⟨o1, h1⟩ : ∃ o1, H3[j]? = some o1 := ⟨H3[j]'(by omega), List.getElem?_eq_getElem _⟩
    exact .inl ⟨.o j, o1, by simp [Hd.ren, hj], h1, by simp [outO, hx, h1]⟩
   | none =>
    refine .inr ⟨zD9 hx, by simpa [outO, hx] using ho', ?_⟩
    simp only [joinSβ, hx]
    cases h with
    | o k => rfl
    | l i => simp [hi i rfl]
  cases h with
  | o k => exact old fun i e => by cases e
  | l i =>
   by_cases h1 : i < L.length
   ·exact old fun i' e => by cases e; exact h1
   ·by_cases h2 : i < L.length + g
    ·obtain ⟨m, rfl⟩ : ∃ m, i = L.length + m := ⟨i - L.length, by omega⟩
     rw [getMid m (by omega)] at ho
     obtain ⟨o1, e1, rfl⟩ := Option.map_eq_some_iff.1 ho
     refine .inl ⟨.o (σ.length + m), o1, ?_, e1, rfl⟩
     simp only [Hd.ren]
     rw [List.getElem?_eq_none (by omega)]
     simp
    ·obtain ⟨m, rfl⟩ : ∃ m, i = L.length + g + m := ⟨i - L.length - g, by omega⟩
     rw [getNew m] at ho
     obtain ⟨o1, e1, rfl⟩ := Option.map_eq_some_iff.1 ho
     exact .inl ⟨.l m, o1, rfl, e1, rfl⟩
 ·have hx := zIp hns
  have hi : ∀ i, h = .l i → i < L.length := fun i e => by subst e; exact (List.getElem?_eq_some_iff.1 (show L[i]? = some o from ho)).1
  refine ⟨by rw [getOld h hi, ho]; simp [outO, hx], ?_⟩
  simp only [joinSβ, hx]
  cases h with
  | o k => rfl
  | l i => simp [hi i rfl]
variable {n g : Nat}
theorem zEw (hB : BackC β β1 H L H3 news F σ n g) {b : Nat} (h : Free β1 ⟨H3, news, lendSF β ⟨H, L, F⟩ σ⟩ b) : Free (joinSβ β β1 σ n g) (backG H L H3 news F σ n g) b := by
 refine ⟨fun hb => h.1 (.inl hb), fun k hk => ?_⟩
 obtain ⟨o, ho, hne⟩ := hk
 rcases hB.down k o ho with ⟨k1, o1, rfl, h1, rfl⟩ | ⟨h1, h2, h3⟩
 ·rw [(hB.up k1 o1 h1).2]
  exact h.2 k1 ⟨o1, h1, (AObj.ren_off _ _ _ _).1 hne⟩
 ·rw [h3]
  exact fun e => h.1 (.inr ⟨k, ⟨o, h2, hne⟩, h1, e⟩)
theorem RepT.joinS (hB : BackC β β1 H L H3 news F σ n g) {x : TV} {v : Value} (h : RepT w' β1 ⟨H3, news, lendSF β ⟨H, L, F⟩ σ⟩ x v) : RepT w' (joinSβ β β1 σ n g) (backG H L H3 news F σ n g) (x.ren σ n g) v := by
 induction h with
 | p h => exact .p (h.mono (Nat.le_refl _) fun b _ hb => ⟨rfl, zEw hB hb⟩)
 | ad k off v h1 hl hv =>
  obtain ⟨o, ho⟩ := hl
  obtain ⟨e1, e2⟩ := hB.up k o ho
  refine .ad _ _ _ h1 ⟨_, e1⟩ fun o' ho' hb => ?_
  rw [e1] at ho'
  obtain rfl := Option.some.inj ho'
  rw [e2]
  rw [AObj.ren_isMap]
  exact hv o ho (by rwa [AObj.ren_isBox] at hb)
 | sl k n' st len v h1 hl hv =>
  obtain ⟨o, ho, hno⟩ := hl
  obtain ⟨e1, e2⟩ := hB.up k o ho
  refine .sl _ _ _ _ _ h1 ⟨_, e1, fun T b e rows hr => ?_⟩ fun T b e rows hr hlen => ?_
  ·cases o <;> simp [AObj.ren] at hr
   obtain ⟨rfl, rfl, rfl, rfl⟩ := hr
   exact hno _ _ _ _ rfl
  ·rw [e1] at hr
   have hr := Option.some.inj hr
   cases o <;> simp [AObj.ren] at hr
   obtain ⟨rfl, rfl, rfl, rfl⟩ := hr
   rw [e2]
   exact hv _ _ _ _ ho hlen
 | el e i off ao len c _ hi ih => exact .el e i off ao len c ih hi
 | agg xs vs hl _ ih =>
  refine .agg _ vs (by rw [yK]; exact hl) fun i x v h1 h2 => ?_
  rw [jG] at h1
  obtain ⟨y, hy, rfl⟩ := Option.map_eq_some_iff.1 h1
  exact ih i y v hy h2
 | tup xs vs hl _ ih =>
  refine .tup _ vs (by rw [yK]; exact hl) fun i x v h1 h2 => ?_
  rw [jG] at h1
  obtain ⟨y, hy, rfl⟩ := Option.map_eq_some_iff.1 h1
  exact ih i y v hy h2
 | fn f xs vs hl _ ih =>
  refine .fn f _ vs (by rw [yK]; exact hl) fun i x v h1 h2 => ?_
  rw [jG] at h1
  obtain ⟨y, hy, rfl⟩ := Option.map_eq_some_iff.1 h1
  exact ih i y v hy h2
 | opt c x v _ h2 ih => exact .opt c _ v ih h2
theorem backS (hl : Lend H L σ σ H2) (hB : BackC β β1 H L H3 news F σ n g) (hS : Sim w β ⟨H, L, F⟩) (hS1 : Sim w' β1 ⟨H3, news, lendSF β ⟨H, L, F⟩ σ⟩) (hst : Step w (lendSβ β σ) ⟨H2, [], lendSF β ⟨H, L, F⟩ σ⟩ w' β1 ⟨H3, news, lendSF β ⟨H, L, F⟩ σ⟩)
  (hext : ∀ o ∈ outH σ H3 n g H, o.ext = true) : Sim w' (joinSβ β β1 σ n g) (backG H L H3 news F σ n g) ∧ Step w β ⟨H, L, F⟩ w' (joinSβ β β1 σ n g) (backG H L H3 news F σ n g) := by
 have same : ∀ h o, h ∉ σ → (⟨H, L, F⟩ : Hp).get h = some o → o.off = false → w'.heap[β h]? = w.heap[β h]? := fun h o h1 h2 h3 => hst.fr _ (.inr ⟨h, ⟨o, h2, h3⟩, h1, rfl⟩)
 have hstep : Step w β ⟨H, L, F⟩ w' (joinSβ β β1 σ n g) (backG H L H3 news F σ n g) := by
  refine ⟨hst.os, hst.tape, hst.output, hst.size, fun b hb hf => ?_, fun b hb => hst.fr b (.inl hb), rfl, fun k o ho => ?_⟩
  ·obtain ⟨h1, h2⟩ := hst.frame b hb (zEz hl b hf)
   exact ⟨h1, zEw hB h2⟩
  ·by_cases hk : k ∈ σ
   ·obtain ⟨j, hj⟩ := List.getElem?_of_mem hk
    obtain ⟨o2, ho2⟩ : ∃ o, H2[j]? = some o := ⟨H2[j]'(by rw [hl.len]; exact (List.getElem?_eq_some_iff.1 hj).1), List.getElem?_eq_getElem _⟩
    obtain ⟨h', e1, e2, _⟩ := hl.get (F := F) ho2
    rw [hj] at e1
    obtain rfl := Option.some.inj e1
    rw [ho] at e2
    obtain rfl := Option.some.inj e2
    obtain ⟨o3, g1, g2⟩ := hst.obj (.o j) o2 ho2
    obtain ⟨u1, u2⟩ := hB.up (.o j) o3 g1
    simp only [Hd.ren, hj] at u1 u2
    refine ⟨_, u1, ?_⟩
    rw [u2]
    simp only [lendSβ, hj] at g2
    exact g2.ren σ 0 0 n g
   ·obtain ⟨u1, u2⟩ := hB.old k o hk ho
    refine ⟨o, u1, ?_⟩
    rw [u2]
    exact ObjGo.same (same k o hk ho)
 refine ⟨⟨fun k o ho => ?_, fun k j hk hj he => ?_, hext, fun k hk hb => ?_, fun b hb => Nat.lt_of_lt_of_le (hS.flt b hb) hst.size⟩, hstep⟩
 ·rcases hB.down k o ho with ⟨k1, o1, rfl, h1, rfl⟩ | ⟨h1, h2, h3⟩
  ·rw [(hB.up k1 o1 h1).2]
   have := hS1.objs k1 o1 h1
   cases o1 with
   | dead => trivial
   | box T cells =>
    obtain ⟨cs, h1, h2, h4⟩ := this
    refine ⟨cs, h1, by rw [yK]; exact h2, fun i x hx => ?_⟩
    rw [jG] at hx
    obtain ⟨y, hy, rfl⟩ := Option.map_eq_some_iff.1 hx
    obtain ⟨v, hv, hr⟩ := h4 i y hy
    exact ⟨v, hv, hr.joinS hB⟩
   | arr T app e rows =>
    refine ⟨this.1, fun hoff => ?_⟩
    obtain ⟨cs, fr, h1, h2, h3, h4, h5, h6, h7⟩ := this.2 hoff
    exact ⟨cs, fr, h1, h2, h3, h4, h5, h6, fun i j r x hr hx => let ⟨v, hv, hr'⟩ := h7 i j r x hr hx; ⟨v, hv, hr'.mono (Nat.le_refl _) fun b _ hb => ⟨rfl, zEw hB hb⟩⟩⟩
   | raw x => exact this
  ·rw [h3]
   rcases qS o with hd | hd
   ·exact (hS.objs k o h2).of_off hd
   ·exact (hS.objs k o h2).mono hstep (same k o h1 h2 hd)
 ·obtain ⟨o1, g1, n1⟩ := hk
  obtain ⟨o2, g2, n2⟩ := hj
  have cross : ∀ k1 h o o', (⟨H3, news, lendSF β ⟨H, L, F⟩ σ⟩ : Hp).get k1 = some o → o.off = false → h ∉ σ → (⟨H, L, F⟩ : Hp).get h = some o' → o'.off = false → β1 k1 ≠ β h :=
   fun k1 h o o' a1 a2 a3 a4 a5 e => hS1.disj k1 ⟨o, a1, a2⟩ (.inr ⟨h, ⟨o', a4, a5⟩, a3, e.symm⟩)
  rcases hB.down k o1 g1 with ⟨k1, q1, rfl, a1, rfl⟩ | ⟨a1, a2, a3⟩ <;> rcases hB.down j o2 g2 with ⟨k2, q2, rfl, b1, rfl⟩ | ⟨b1, b2, b3⟩
  ·rw [(hB.up k1 q1 a1).2, (hB.up k2 q2 b1).2] at he
   rw [hS1.inj k1 k2 ⟨q1, a1, (AObj.ren_off _ _ _ _).1 n1⟩ ⟨q2, b1, (AObj.ren_off _ _ _ _).1 n2⟩ he]
  ·rw [(hB.up k1 q1 a1).2, b3] at he
   exact absurd he (cross k1 j q1 o2 a1 ((AObj.ren_off _ _ _ _).1 n1) b1 b2 n2)
  ·rw [(hB.up k2 q2 b1).2, a3] at he
   exact absurd he.symm (cross k2 k q2 o1 b1 ((AObj.ren_off _ _ _ _).1 n2) a1 a2 n1)
  ·rw [a3, b3] at he
   exact hS.inj k j ⟨o1, a2, n1⟩ ⟨o2, b2, n2⟩ he
 ·obtain ⟨o, ho, hne⟩ := hk
  rcases hB.down k o ho with ⟨k1, q1, rfl, a1, rfl⟩ | ⟨a1, a2, a3⟩
  ·rw [(hB.up k1 q1 a1).2] at hb
   exact hS1.disj k1 ⟨q1, a1, (AObj.ren_off _ _ _ _).1 hne⟩ (.inl hb)
  ·rw [a3] at hb
   exact hS.disj k ⟨o, a2, hne⟩ hb
end
theorem RepL.lendS {w : World} {β : Hd → Nat} {H L H2 : List AObj} {F : Nat → Prop} {σ : List Hd} (hl : Lend H L σ σ H2) {xs ys : List TV} {vs : List Value} (h : RepL w β ⟨H, L, F⟩ ys vs) (hy : TV.ren.renL σ 0 0 xs = ys) (hx : TV.clo.cloL σ.length xs = true) : RepL w (lendSβ β σ) ⟨H2, [], lendSF β ⟨H, L, F⟩ σ⟩ xs vs := by
 subst hy
 exact ⟨by rw [h.1, yK], fun i x v h1 h2 => (h.2 i _ v (by rw [jG, h1]; rfl) h2).lendS hl x rfl (zC1 hx h1)⟩
def extM : List AObj → Bool
 | [] => true
 | x :: r => x.ext && extM r
theorem zS8 : ∀ {l : List AObj}, extM l = true → ∀ o ∈ l, o.ext = true
 | [], _, o, h => by simp at h
 | x :: r, h, o, ho => by
  simp only [extM, Bool.and_eq_true] at h
  rcases List.mem_cons.1 ho with rfl | ho
  ·exact h.1
  ·exact zS8 h.2 o ho
def tellT (x : TV) : Option TV := frcU x some
def tellM (l : List AObj) : Option (List AObj) := frcM l some
theorem zPy {x y : TV} (h : tellT x = some y) : x = y := by unfold tellT at h; rw [zGv] at h; exact Option.some.inj h
theorem zJo {x y : List AObj} (h : tellM x = some y) : x = y := by unfold tellM at h; rw [zHe] at h; exact Option.some.inj h
section
variable {P : Program} {env : Env} {H L : List AObj} {o : Oper}
theorem zA (σ : List Hd) {fo : Operand} {as : List Operand} {ts : Array TypeId} {f : FuncId} {caps args : List TV} {r x : TV} {H2 H3 news H' L' : List AObj}
  (ho : o.op = .call { callee := .value fo, args := as.toArray, argTypes := ts }) (hf : evA env fo = .fn f caps) (sp : Con P f args H2 r H3 news) (ha : TV.ren.renL σ 0 0 args = unpOr (evL env as ++ caps)) (hx : TV.clo.cloL σ.length args = true)
  (hn : nodupH σ = true) (hl : Lend H L σ σ H2) (hH : extM (outH σ H3 L.length (H3.length - σ.length) H) = true) (h1 : tellT (r.ren σ L.length (H3.length - σ.length)) = some x)
  (h2 : tellM (outH σ H3 L.length (H3.length - σ.length) H) = some H') (h3 : tellM (outL σ H3 news L.length (H3.length - σ.length) L) = some L') : OpR P o env H L x H' L' := by
 have e1 := zPy h1
 have e2 := zJo h2
 have e3 := zJo h3
 subst e1 e2 e3
 intro F w β a next Q hS he hnx
 have hfo := zL he fo
 rw [hf] at hfo
 obtain ⟨vs, hvs, hc⟩ : ∃ vs : List Value, a.eval fo = .func (.func f) #[] vs.toArray ∧ RepL w β ⟨H, L, F⟩ caps vs := by
  generalize hv : a.eval fo = v at hfo
  cases hfo with | fn _ _ vs hl hr => exact ⟨vs, rfl, hl, hr⟩
 have hargs := zEe ((zLk he as).append hc)
 have hcall := sp.run (lendSF β ⟨H, L, F⟩ σ) w (lendSβ β σ) (as.map a.eval ++ vs) (hS.lendS hl hn) (hargs.lendS hl ha hx)
 unfold Oper.wp execOp
 simp only [ho, resolve, invoke, Deferred.ofValue, hvs, Sem.run_bind, Sem.run_pure, Result.andThen_ok, List.map_toArray, List.nil_append, List.append_toArray, zDy sp.can, Oper.upon]
 refine hcall.mono ?_
 rintro e w' ⟨β1, v, rfl, hS1, hst, hr⟩
 have hlen : σ.length ≤ H3.length := by
  rcases Nat.eq_zero_or_pos σ.length with h0 | h0
  ·omega
  ·have hlt : σ.length - 1 < H2.length := by rw [hl.len]; omega
   obtain ⟨o', g1, _⟩ := hst.obj (.o (σ.length - 1)) _ (List.getElem?_eq_getElem hlt)
   have := (List.getElem?_eq_some_iff.1 (show H3[σ.length - 1]? = some o' from g1)).1
   omega
 have hB : BackC β β1 H L H3 news F σ L.length (H3.length - σ.length) := backC hl hn hlen (by omega) rfl
 obtain ⟨k1, k2⟩ := backS hl hB hS hS1 hst (zS8 hH)
 exact hnx w' _ v k1 k2 (hr.joinS hB)
theorem zN8 {f : Nat → AObj → AObj} (hf : ∀ i x, f i x = x) : ∀ (l : List AObj) (i : Nat), mapI f i l = l
 | [], _ => rfl
 | x :: r, i => by simp [mapI, hf, zN8 hf r]
theorem zB {fo : Operand} {as : List Operand} {ts : Array TypeId} {f : FuncId} {caps args : List TV} {r x : TV} {news L' : List AObj}
  (ho : o.op = .call { callee := .value fo, args := as.toArray, argTypes := ts }) (hf : evA env fo = .fn f caps) (sp : Con P f args [] r [] news) (ha : TV.ren.renL [] 0 0 args = unpOr (evL env as ++ caps)) (hx : TV.clo.cloL 0 args = true)
  (h1 : tellT (r.ren [] L.length 0) = some x) (h3 : tellM (L ++ renM [] L.length 0 news) = some L') : OpR P o env H L x H L' := by
 have e1 := zPy h1
 have e3 := zJo h3
 subst e1 e3
 intro F w β a next Q hS he hnx
 have hfo := zL he fo
 rw [hf] at hfo
 obtain ⟨vs, hvs, hc⟩ : ∃ vs : List Value, a.eval fo = .func (.func f) #[] vs.toArray ∧ RepL w β ⟨H, L, F⟩ caps vs := by
  generalize hv : a.eval fo = v at hfo
  cases hfo with | fn _ _ vs hl hr => exact ⟨vs, rfl, hl, hr⟩
 have hl : Lend H L [] [] [] := trivial
 have hargs := zEe ((zLk he as).append hc)
 have hcall := sp.run (lendSF β ⟨H, L, F⟩ []) w (lendSβ β []) (as.map a.eval ++ vs) (hS.lendS hl rfl) (hargs.lendS hl ha hx)
 unfold Oper.wp execOp
 simp only [ho, resolve, invoke, Deferred.ofValue, hvs, Sem.run_bind, Sem.run_pure, Result.andThen_ok, List.map_toArray, List.nil_append, List.append_toArray, zDy sp.can, Oper.upon]
 refine hcall.mono ?_
 rintro e w' ⟨β1, v, rfl, hS1, hst, hr⟩
 have hB : BackC β β1 H L [] news F [] L.length 0 := backC hl rfl (Nat.le_refl _) rfl rfl
 have idH : outH [] [] L.length 0 H = H := zN8 (fun i x => rfl) H 0
 have idL : outL [] [] news L.length 0 L = L ++ renM [] L.length 0 news := by
  unfold outL
  rw [zN8 (f := fun k => outO [] [] L.length 0 (.l k)) (fun i x => rfl) L 0]
  rfl
 obtain ⟨k1, k2⟩ := backS hl hB hS hS1 hst (by rw [idH]; exact hS.ext)
 have k3 := hr.joinS hB
 unfold backG at k1 k2 k3
 rw [idH, idL] at k1 k2 k3
 exact hnx w' _ v k1 k2 k3
end
section
variable {P : Program} {Γ : Ctx} {env : Env} {H L : List AObj} {Q : Exit → Act → World → Prop} {c : Code}
theorem zP1 (n : Nat) (h : J Γ env H L (Code.rounds P c Q n)) : J Γ env H L ((Code.loop c).wp P Q) := zFf h fun _ _ => wp_loop_rounds _
theorem zBx {n : Nat} (h : J Γ env H L (c.wp P (Exit.then (Code.rounds P c Q n) Q))) : J Γ env H L (Code.rounds P c Q (n + 1)) := fun a w β s => by
 rw [rounds_succ]
 exact h a w β s
end
section
variable {w : World} {β : Hd → Nat} {H L : List AObj} {F : Nat → Prop} {i : Nat} {ob : AObj}
end
section
variable {Γ : Ctx} {env : Env} {H L : List AObj} {Φ : Act → World → Prop}
end
section
variable {P : Program} {env : Env} {H L : List AObj} {o : Oper}
theorem zM {fo : Operand} {as : List Operand} {ts : Array TypeId} {f : FuncId} {caps args : List TV} {r x : TV}
  (ho : o.op = .call { callee := .value fo, args := as.toArray, argTypes := ts }) (hf : evA env fo = .fn f caps) (sp : Con P f args [] r [] []) (ha : TV.ren.renL [] 0 0 args = unpOr (evL env as ++ caps)) (hx : TV.clo.cloL 0 args = true)
  (h1 : tellT (r.ren [] L.length 0) = some x) : OpR P o env H L x H L := by
 exact zB (H := H) (L := L) (L' := L) ho hf sp ha hx h1 (by
  unfold tellM
  rw [zHe]
  simp [renM])
end
def frcD {α : Type} (x : TV) (k : TV → Option α) : Option α := match x with
 | .p v => k (.p v)
 | .ad h o => frcH h fun h' => k (.ad h' o)
 | .sl h a b c => frcH h fun h' => k (.sl h' a b c)
 | .el s e i o => frcU s fun s' => k (.el s' e i o)
 | .agg l => frcUL l fun l' => k (.agg l')
 | .tup l => frcUL l fun l' => k (.tup l')
 | .fn f l => frcUL l fun l' => k (.fn f l')
 | .opt g x => frcU x fun x' => k (.opt g x')
theorem zT0 {α : Type} (x : TV) (k : TV → Option α) : frcD x k = k x := by cases x <;> first | rfl | simp [frcD, zIk, zGv, zNc]
def putN (env : Env) (d : Option Nat) (x : TV) : Option Env := match d with
 | some d => frcD x fun x' => some ((d, x') :: env)
 | none => some env
def putM (env : Env) (d : Option Nat) (x : TV) : Option Env := match d with
 | some d => some ((d, x) :: env)
 | none => some env
theorem zN0 {env env' : Env} {d : Option Nat} {x : TV} (h : putN env d x = some env') : putE env d x = env' := by
 cases d with
 | none => exact Option.some.inj h
 | some d => simp only [putN, zT0] at h; exact Option.some.inj h
theorem zTb {env env' : Env} {d : Option Nat} {x : TV} (h : putM env d x = some env') : putE env d x = env' := by
 cases d <;> exact Option.some.inj h
section
variable {P : Program} {Γ : Ctx} {env env' : Env} {H L : List AObj} {Q : Exit → Act → World → Prop} {ops : Array Oper} {rest : List Oper} {o : Oper}
theorem zH {x : TV} {H' L' : List AObj} (hg : o.guard = none) (hd : dstOk Γ.N o.dst = true) (h : OpR P o env H L x H' L') (he : putN env o.dst x = some env') (k : J Γ env' H' L' (wpList P ops Q rest)) : J Γ env H L (wpList P ops Q (o :: rest)) :=
 zBv hg hd h (by rw [zN0 he]; exact k)
theorem zZ {x : TV} {H' L' : List AObj} {j : Nat} {b : Bool} (hg : o.guard = some (j, b)) (hb : gA ops env j = some b) (hd : dstOk Γ.N o.dst = true) (h : OpR P o env H L x H' L') (he : putN env o.dst x = some env') (k : J Γ env' H' L' (wpList P ops Q rest)) : J Γ env H L (wpList P ops Q (o :: rest)) :=
 zF2 hg hb hd h (by rw [zN0 he]; exact k)
theorem K_no {j : Nat} {b c : Bool} (hg : o.guard = some (j, b)) (hb : gB ops env j b = some c) (hc : c = false) (hd : dstOk Γ.N o.dst = true) (he : putM env o.dst (.opt false (.p (.bool false))) = some env') (k : J Γ env' H L (wpList P ops Q rest)) : J Γ env H L (wpList P ops Q (o :: rest)) := by
 intro a w β s
 unfold wpList
 rw [if_neg (by simp [Region.wanted, hg, (gB_ok s.env hb).2 hc])]
 rw [← zTb he] at k
 exact k _ _ _ (s.next hd s.sim (Step.refl ..) (.opt _ _ _ (fun h => by cases h) fun _ => rfl))
theorem yZ {x : TV} {j : Nat} {b c : Bool} (hg : o.guard = some (j, b)) (hb : gB ops env j b = some c) (hd : dstOk Γ.N o.dst = true) (hn : NeedAll c (needE env (o.looksAt ops)))
  (h : c = true → OpR P o (strE env (o.looksAt ops)) H L x H L) (he : putN env o.dst (.opt c x) = some env') (k : J Γ env' H L (wpList P ops Q rest)) : J Γ env H L (wpList P ops Q (o :: rest)) :=
 J_opt hg hb hd hn h (by rw [zN0 he]; exact k)
theorem zOn {d : Option Nat} {op : Op} {t : TypeId} {pos : String} {af : Array Edge} (h : J Γ env H L (wpList P ops Q ({ dst := d, op := op, type := t, pos := pos, after := af, guard := none } :: rest))) : J Γ env H L (wpList P ops Q ({ dst := d, op := op, type := t, pos := pos, after := af, guard := none } :: rest)) := h
theorem zJg {d : Option Nat} {op : Op} {t : TypeId} {pos : String} {af : Array Edge} {g : Nat × Bool} (h : J Γ env H L (wpList P ops Q ({ dst := d, op := op, type := t, pos := pos, after := af, guard := some g } :: rest))) : J Γ env H L (wpList P ops Q ({ dst := d, op := op, type := t, pos := pos, after := af, guard := some g } :: rest)) := h
theorem zJe {j : Nat} {b : Bool} (_ : o.guard = some (j, b)) (_ : gA ops env j = some b) (h : J Γ env H L (wpList P ops Q (o :: rest))) : J Γ env H L (wpList P ops Q (o :: rest)) := h
theorem zJj {c : Operand} {x y : Code} (h : J Γ env H L ((Code.cond c x y).wp P Q)) : J Γ env H L ((Code.cond c x y).wp P Q) := h
theorem zJs {i j : Nat} (h : J Γ env H L (Exit.inBlock i Q (.exit j))) : J Γ env H L (Exit.inBlock i Q (.exit j)) := h
theorem zG {c : Operand} {x y : Code} {b : Bool} (hc : evA env c = .p (.bool b)) (hb : b = true) (k : J Γ env H L (x.wp P Q)) : J Γ env H L ((Code.cond c x y).wp P Q) :=
 yU hc (fun _ => k) (fun h => by rw [hb] at h; cases h)
theorem zF {c : Operand} {x y : Code} {b : Bool} (hc : evA env c = .p (.bool b)) (hb : b = false) (k : J Γ env H L (y.wp P Q)) : J Γ env H L ((Code.cond c x y).wp P Q) :=
 yU hc (fun h => by rw [hb] at h; cases h) (fun _ => k)
def keepE (env : Env) : List Nat → Env
 | [] => []
 | t :: r => (t, lk env t) :: keepE env r
def tellE : Env → (Env → Option Env) → Option Env
 | [], k => k []
 | (t, x) :: r, k => frcU x fun x' => tellE r fun r' => k ((t, x') :: r')
theorem zI3 : ∀ (e : Env) (k : Env → Option Env), tellE e k = k e
 | [], _ => rfl
 | (t, x) :: r, k => by simp only [tellE, zGv, zI3 r]
theorem zPp (env : Env) : ∀ (ts : List Nat) (t : Nat), lk (keepE env ts) t = lk env t ∨ lk (keepE env ts) t = .p .top
 | [], _ => .inr rfl
 | s :: r, t => by
  simp only [keepE, y4]
  split
  ·rename_i e; rw [e]; exact .inl rfl
  ·exact zPp env r t
theorem K_only {Φ : Act → World → Prop} (ts : List Nat) (he : tellE (keepE env ts) some = some env') (k : J Γ env' H L Φ) : J Γ env H L Φ := fun a w β s => by
 rw [zI3] at he
 have he := Option.some.inj he
 subst he
 exact k a w β ⟨s.sim, s.step, s.env.sub (fun t => zPp env ts t), s.size, s.defers⟩
def tellS (e : Env) : Option Env := tellE e some
theorem zE {Φ : Act → World → Prop} (he : tellS env = some env') (k : J Γ env' H L Φ) : J Γ env H L Φ := by
 unfold tellS at he
 rw [zI3] at he
 have he := Option.some.inj he
 subst he
 exact k
end
theorem zBa (P : Program) (g o : Nat) (t : TypeId) (fz : Nat × Nat) : ∀ (vs : List Value) (i : Nat) (cur : Array Value) (w : World), w.heap[g]? = some (.cells cur t fz) → Unfrozen fz cur.size → o + i + vs.length ≤ cur.size → (∀ v ∈ vs, v.oneCell' = true) →
  (storeCells ⟨g, o, none⟩ vs i).run P w = .ok () (w.setRow g (cur.toList.take (o + i) ++ vs ++ cur.toList.drop (o + i + vs.length)).toArray)
 | [], i, cur, w, hg, _, _, _ => by
  simp only [storeCells, List.append_nil, List.length_nil, Nat.add_zero, List.take_append_drop, Array.toArray_toList]
  rw [setRow_self w g cur t fz hg]
  rfl
 | v :: rest, i, cur, w, hg, hfz, hl, h1 => by
  have hi : o + i < cur.size := by simp at hl; omega
  have hadd : (⟨g, o, none⟩ : Addr).add i = ⟨g, o + i, none⟩ := Addr.add_lit ..
  have hcell : w.cell? ⟨g, o + i, none⟩ = some cur[o + i] := by simp [World.cell?, hg, hi]
  have hfro : w.frozen? ⟨g, o + i, none⟩ = false := by
   have := hfz (o + i) hi
   simpa [World.frozen?, hg] using this
  have hst : (store ((⟨g, o, none⟩ : Addr).add i) v).run P w = .ok () (w.setRow g (cur.setIfInBounds (o + i) v)) := by
   rw [hadd, run_store P w _ v _ (h1 v (by simp)), hcell]
   simp [hfro, setCell_eq_setRow w g (o + i) cur t fz v hg]
  have ih := zBa P g o t fz rest (i + 1) (cur.setIfInBounds (o + i) v) (w.setRow g (cur.setIfInBounds (o + i) v)) (setRow_heap w g cur _ t _ hg) (by simpa using hfz) (by simp at hl ⊢; omega) (fun x hx => h1 x (by simp [hx]))
  simp only [storeCells, Sem.run_bind, hst, Result.andThen_ok, ih, setRow_setRow]
  congr 3
  have hlen : o + i < cur.toList.length := by simpa using hi
  simp only [Array.toList_setIfInBounds, List.length_cons]
  rw [show o + (i + 1) = o + i + 1 by omega, List.take_succ_eq_append_getElem (by simp; omega), List.take_set_of_le (Nat.le_refl _)]
  rw [List.drop_set_of_lt (by omega), show o + i + 1 + rest.length = o + i + (rest.length + 1) by omega]
  simp
theorem zJ6 {x : AV} (h : cl x = true) : cellsOf x = [x] := by
 cases x <;> first | rfl | (simp [cl] at h)
section
variable {P : Program} {T : Tab} {env : Env} {H L : List AObj} {o : Oper} {x : TV}
theorem zJb {s d e : TypeId} {y : Operand} {l : List UInt8} (hT : TabOk P T) (ho : o.op = .convert s d y) (hs : tyD T s = .str) (hd : tyD T d = .slice e) (he : tyD T e = .int .u8) (hy : evA env y = .p (.str l)) (hl : l.length ≤ 140737488355328) :
  OpR P o env H L (.sl (.l L.length) l.length 0 l.length) H (L ++ [.arr e false 1 (bv l)]) :=
 zJd fun F w β a hS hen => by
  have hv := zL hen y
  rw [hy] at hv
  obtain ⟨u1, a1, b1⟩ := zV hT (t := s) (by rw [hs]; simp)
  rw [hs] at b1
  obtain rfl := qZ b1
  obtain ⟨u2, a2, b2⟩ := zV hT (t := d) (by rw [hd]; simp)
  rw [hd] at b2
  obtain rfl := yB b2
  obtain ⟨u3, a3, b3⟩ := zV hT (t := e) (by rw [he]; simp)
  rw [he] at b3
  obtain rfl := zBo b3
  have hr := run_bytes_of_string (P := P) w s d e ⟨l.toArray⟩ a1 a2 a3
  have hsz : (⟨l.toArray⟩ : ByteArray).size = l.length := by simp [ByteArray.size]
  refine ⟨_, _, w.drew, by simp only [execOp, ho, hv.str_inv, Sem.run_bind, hr, Result.andThen_ok, Sem.run_pure]; rfl, rfl, rfl, rfl, rfl, fun β' hβ hst => ?_⟩
  have hge := grownCap_ge w (⟨l.toArray⟩ : ByteArray).size 0 e
  have hle : grownCap w (⟨l.toArray⟩ : ByteArray).size 0 e ≤ maxLen := grownCap_le_maxLen w _ 0 e (by rw [hsz]; unfold maxLen; omega)
  rw [hsz] at hge hle ⊢
  have hblk := yP w.drew (.cells (bytesRow ⟨l.toArray⟩ (grownCap w l.length 0 e)) e ((bytesRow ⟨l.toArray⟩ (grownCap w l.length 0 e)).size, (bytesRow ⟨l.toArray⟩ (grownCap w l.length 0 e)).size + 1))
  have hbs : (bytesRow ⟨l.toArray⟩ (grownCap w l.length 0 e)).size = grownCap w l.length 0 e := by simp [bytesRow]; omega
  refine ⟨⟨by decide, fun _ => ⟨_, _, hblk, ?_, ?_, by simp, by decide, y5 l, fun i j r x hi hj => ?_⟩⟩, ?_⟩
  ·rw [hbs]; simpa using hge
  ·intro i hi
   simp; omega
  ·rw [zFe] at hi
   simp only [Option.map_eq_some_iff] at hi
   obtain ⟨b, hb, rfl⟩ := hi
   match j with
   | 0 =>
    simp [cellsOf] at hj
    subst hj
    have hil : i < l.length := (List.getElem?_eq_some_iff.1 hb).1
    refine ⟨.int .u8 b.toNat, ?_, .int ..⟩
    simp only [bytesRow]
    rw [Array.getElem?_append_left (by simp; omega)]
    simp [hb]
   | j + 1 => simp [cellsOf] at hj
  ·refine .sl _ _ _ _ _ rfl ⟨_, zDg H L _ F, fun T b e rows hr => ?_⟩ fun T b e' rows hr hlen => ?_
   ·simp only [AObj.arr.injEq] at hr
    obtain ⟨_, _, _, rfl⟩ := hr
    simp
   ·rw [zDg] at hr
    simp only [Option.some.injEq, AObj.arr.injEq] at hr
    obtain ⟨rfl, rfl, rfl, rfl⟩ := hr
    refine ⟨by omega, (fun h => by cases h), fun _ => ⟨some ⟨w.heap.size, 0, none⟩, grownCap w l.length 0 e, rfl, hge, hle, fun _ => ?_, fun h => by cases h⟩⟩
    rw [hβ]; simp
set_option maxHeartbeats 1000000 in
theorem zCk {t : TypeId} {y z : Operand} {i n st len idx : Nat} {ti : TyI} {Ty : TypeId} {app : Bool} {rows : List AV} {x : AV} (hT : TabOk P T) (ho : o.op = .store t y z) (hy : evA env y = .el (.sl (.l i) n st len) 1 idx 0) (hi : L[i]? = some (.arr Ty app 1 rows)) (hn : rows.length = n)
    (ht : tlk T t = some ti) (hz : evA env z = .p x) (h1 : ti.size = 1) (hcl : cl x = true) : OpR P o env H L (.p .top) H (L.set i (.arr Ty app 1 (rows.set (st + idx) x))) :=
  zTz fun F0 w0 β0 a0 hS0 hen0 => by
   have hr0 : rows.length ≠ 0 := by
     have hp := zL hen0 y
     rw [hy] at hp
     generalize a0.eval y = vy at hp
     cases hp with | el _ _ _ ad len' c hs hlt =>
     cases hs with | sl _ _ _ _ _ _ _ hvv =>
     have hle := (hvv _ _ _ _ hi hn).le
     obtain ⟨ao, cap, hq, _⟩ := (hvv _ _ _ _ hi hn).val
     simp only [Value.slice.injEq] at hq
     omega
   exact zEx hi (AObj.off_arr.2 fun _ => hr0) fun F w β a hS hen => by
    obtain ⟨inf, u, ok⟩ := hT.get ht
    have hv := zL hen z
    rw [hz] at hv
    have hv : RepA w (Free β ⟨H, L, F⟩) x (a.eval z) := by cases hv with | p h => exact h
    have hone := zQp hv hcl
    have hcell : (a.eval z).cells = #[a.eval z] := by
      generalize a.eval z = q at hone
      cases q <;> first | rfl | (clear hv; simp [Value.oneCell'] at hone)
    have hp := zL hen y
    rw [hy] at hp
    obtain ⟨cs, fr, c1, c2, c3, c4, c5, c6, c7⟩ := (hS.objs (.l i) _ hi).2 (AObj.off_arr.2 fun _ => hr0)
    generalize hvy : a.eval y = vy at hp
    cases hp with | el _ _ _ ad len' c hs hlt =>
    cases hs with | sl _ _ _ _ _ _ _ hvv =>
    have hle := (hvv _ _ _ _ hi hn).le
    obtain ⟨ao, cap, hq, q2, q3, q4⟩ := (hvv _ _ _ _ hi hn).val
    simp only [Value.slice.injEq] at hq
    obtain ⟨hao, rfl, rfl⟩ := hq
    have hao2 := q4 (by omega)
    rw [← hao] at hao2
    obtain rfl := Option.some.inj hao2
    have hadd : (⟨β (.l i), st * 1, none⟩ : Addr).add (idx * 1 + 0) = ⟨β (.l i), st + idx, none⟩ := by rw [Addr.add_lit]; simp
    rw [hadd] at hvy
    have hlt2 : st + idx < cs.size := by omega
    have hst := zBa P (β (.l i)) (st + idx) Ty fr [a.eval z] 0 cs w c1 c3 (by simp; omega) (by simpa using hone)
    have hrun : (storeVar t ⟨β (.l i), st + idx, none⟩ (a.eval z)).run P w = .ok () (w.setRow (β (.l i)) (cs.toList.take (st + idx) ++ [a.eval z] ++ cs.toList.drop (st + idx + 1)).toArray) := by
      simp only [Nat.add_zero, List.length_cons, List.length_nil, Nat.zero_add] at hst
      simp only [storeVar, Sem.run_bind, ok.run_size, Result.andThen_ok, hcell, h1]
      simpa using hst
    have hblk := setRow_heap w (β (.l i)) cs (cs.toList.take (st + idx) ++ [a.eval z] ++ cs.toList.drop (st + idx + 1)).toArray Ty fr c1
    have hlen : (cs.toList.take (st + idx) ++ [a.eval z] ++ cs.toList.drop (st + idx + 1)).length = cs.size := by
      simp; omega
    refine ⟨undef, w.setRow (β (.l i)) (cs.toList.take (st + idx) ++ [a.eval z] ++ cs.toList.drop (st + idx + 1)).toArray, .inr ⟨by simp only [execOp, ho, Instr.storeAt, Instr.sureAddr, hvy, Sem.run_bind, Sem.run_pure, Result.andThen_ok]; rw [hrun]; rfl, rfl⟩, rfl, rfl, rfl, by simp, fun b hb => setRow_other w _ b _ hb, ?_, fun hst => ⟨?_, .p (.top _)⟩⟩
    · refine ⟨rfl, rfl, rfl, by simp, fun _ _ => ⟨rfl, ?_⟩⟩
      unfold csize
      rw [hblk, c1]
      simpa using hlen
    · have hm : ∀ x v, RepA w (Free β ⟨H, L, F⟩) x v → RepA _ _ x v := fun x v h => h.mono hst.size hst.frame
      refine ⟨c5, fun _ => ⟨_, fr, hblk, by rw [List.length_set]; simp only [List.size_toArray, hlen]; exact c2, by simp only [List.size_toArray, hlen]; exact c3, c4, c5, fun q hq => ?_, fun p q rr y hp hq => ?_⟩⟩
      · rcases List.mem_or_eq_of_mem_set hq with h | h
        · exact c6 q h
        · rw [h, zJ6 hcl]; rfl
      · have hq0 : q = 0 := by
          have hl1 : (cellsOf rr).length = 1 := by
            rcases List.mem_or_eq_of_mem_set (List.mem_of_getElem? hp) with h | h
            · exact c6 rr h
            · rw [h, zJ6 hcl]; rfl
          have := (List.getElem?_eq_some_iff.1 hq).1
          omega
        subst hq0
        simp only [Nat.mul_one, Nat.add_zero, List.getElem?_toArray]
        by_cases hpe : p = st + idx
        · subst hpe
          have hpl : st + idx < rows.length := by simpa using (List.getElem?_eq_some_iff.1 hp).1
          rw [List.getElem?_set_self hpl] at hp
          obtain rfl := Option.some.inj hp
          have : y = x := by
            rw [zJ6 hcl] at hq
            simpa using hq.symm
          subst this
          refine ⟨a.eval z, ?_, hm _ _ hv⟩
          rw [List.getElem?_append_left (by simp; omega), List.getElem?_append_right (by simp; omega)]
          simp [Nat.min_eq_left (Nat.le_of_lt hlt2)]
        · rw [List.getElem?_set_ne (fun e => hpe e.symm)] at hp
          obtain ⟨v, hv1, hv2⟩ := c7 p 0 rr y hp hq
          refine ⟨v, ?_, hm _ _ hv2⟩
          simp only [Nat.mul_one, Nat.add_zero] at hv1
          have hvl : cs.toList[p]? = some v := by simpa using hv1
          rcases Nat.lt_or_gt_of_ne hpe with h | h
          · rw [List.getElem?_append_left (by simp; omega), List.getElem?_append_left (by simp; omega), List.getElem?_take, if_pos h]; exact hvl
          · rw [List.getElem?_append_right (by simp; omega), List.getElem?_drop]
            simp only [List.length_append, List.length_take, Array.length_toList, List.length_cons, List.length_nil, Nat.min_eq_left (Nat.le_of_lt hlt2)]
            rw [show st + idx + 1 + (p - (st + idx + 0 + 1)) = p by omega]
            exact hvl
end
end Go.Awp
namespace Go.Awp
open Go.RowKit Lib
def runeAt (l : List UInt8) (pos : Nat) : Nat × Nat := Utf8.decode ⟨l.toArray⟩ pos
theorem zB7 {l : List UInt8} {pos : Nat} {b : UInt8} (h : l[pos]? = some b) (ha : b.toNat < 128) : runeAt l pos = (b.toNat, 1) := by
 obtain ⟨hlt, rfl⟩ := List.getElem?_eq_some_iff.1 h
 exact decode_ascii ⟨l.toArray⟩ pos (by simpa [ByteArray.size] using hlt) ha
theorem zF3 {l : List UInt8} {pos : Nat} {b : UInt8} (h : l[pos]? = some b) (ha : 128 ≤ b.toNat) : 128 ≤ (runeAt l pos).1 ∧ 1 ≤ (runeAt l pos).2 := by
 obtain ⟨hlt, rfl⟩ := List.getElem?_eq_some_iff.1 h
 exact decode_high ⟨l.toArray⟩ pos (by simpa [ByteArray.size] using hlt) ha
theorem zT3 (l : List UInt8) (pos : Nat) : (runeAt l pos).1 ≤ 2147483647 := decode_le _ _
theorem zN9 (l : List UInt8) (pos : Nat) : pos + (runeAt l pos).2 ≤ max l.length (pos + 1) ∧ ∀ k, 1 ≤ k → k < (runeAt l pos).2 → ∃ b, l[pos + k]? = some b ∧ 128 ≤ b.toNat := by
 have hc : ∀ k, (decide (pos + k < (⟨l.toArray⟩ : ByteArray).size) && ((⟨l.toArray⟩ : ByteArray).get! (pos + k)).toNat / 64 == 2) = true → pos + k < l.length ∧ ∃ b, l[pos + k]? = some b ∧ 128 ≤ b.toNat := by
  intro k hk
  simp only [Bool.and_eq_true, decide_eq_true_eq, beq_iff_eq] at hk
  have hlt : pos + k < l.length := by simpa [ByteArray.size] using hk.1
  refine ⟨hlt, l[pos + k], List.getElem?_eq_getElem hlt, ?_⟩
  have e : (⟨l.toArray⟩ : ByteArray).get! (pos + k) = l[pos + k] := by
   simp [ByteArray.get!, getElem!_pos, hlt]
  rw [e] at hk
  omega
 unfold runeAt Utf8.decode
 simp only []
 split
 ·exact ⟨by simp only []; omega, fun k h1 h2 => by simp only [] at h2; omega⟩
 ·split
  ·rename_i h
   simp only [Bool.and_eq_true] at h
   obtain ⟨c1, c1'⟩ := hc 1 (by simpa using h.2)
   split
   ·refine ⟨by simp only []; omega, fun k h1 h2 => ?_⟩
    simp only [] at h2
    obtain rfl : k = 1 := by omega
    exact c1'
   ·exact ⟨by simp only []; omega, fun k h1 h2 => by simp only [] at h2; omega⟩
  ·split
   ·rename_i h
    simp only [Bool.and_eq_true] at h
    obtain ⟨c1, c1'⟩ := hc 1 (by simpa using h.1.2)
    obtain ⟨c2, c2'⟩ := hc 2 (by simpa using h.2)
    split
    ·refine ⟨by simp only []; omega, fun k h1 h2 => ?_⟩
     simp only [] at h2
     have : k = 1 ∨ k = 2 := by omega
     rcases this with rfl | rfl
     ·exact c1'
     ·exact c2'
    ·exact ⟨by simp only []; omega, fun k h1 h2 => by simp only [] at h2; omega⟩
   ·split
    ·rename_i h
     simp only [Bool.and_eq_true] at h
     obtain ⟨c1, c1'⟩ := hc 1 (by simpa using h.1.1.2)
     obtain ⟨c2, c2'⟩ := hc 2 (by simpa using h.1.2)
     obtain ⟨c3, c3'⟩ := hc 3 (by simpa using h.2)
     split
     ·refine ⟨by simp only []; omega, fun k h1 h2 => ?_⟩
      simp only [] at h2
      have : k = 1 ∨ k = 2 ∨ k = 3 := by omega
      rcases this with rfl | rfl | rfl
      ·exact c1'
      ·exact c2'
      ·exact c3'
     ·exact ⟨by simp only []; omega, fun k h1 h2 => by simp only [] at h2; omega⟩
    ·exact ⟨by simp only []; omega, fun k h1 h2 => by simp only [] at h2; omega⟩
section
variable {P : Program} {T : Tab} {env : Env} {H L : List AObj} {o : Oper} {x : TV}
theorem zUs {t : TypeId} {y : Operand} {l : List UInt8} (hT : TabOk P T) (ho : o.op = .range t y) (hd : tyD T t = .str) (hy : evA env y = .p (.str l)) : OpR P o env H L (.ad (.l L.length) 0) H (L ++ [.iter l 0]) :=
 zNx fun F w β a hS he => by
  have hv := zL he y
  rw [hy] at hv
  obtain ⟨u1, a1, b1⟩ := zV hT (t := t) (by rw [hd]; simp)
  rw [hd] at b1
  obtain rfl := qZ b1
  have hr := run_range_string (P := P) w t ⟨l.toArray⟩ a1
  refine ⟨.pointer (some ⟨w.heap.size, 0, none⟩), .stringIter ⟨l.toArray⟩ 0, ?_, fun β' hβ hst => ⟨?_, zVz 0 (by rw [hβ]; simp)⟩⟩
  ·simp only [execOp, ho, hv.str_inv, Sem.run_bind, hr, Result.andThen_ok, Sem.run_pure]
   rfl
  ·exact yP ..
theorem opr_next {y : Operand} {l : List UInt8} {i pos : Nat} (ho : o.op = .next y true) (hy : evA env y = .ad (.l i) 0) (hi : L[i]? = some (.iter l pos)) (hp : pos < l.length) :
  OpR P o env H L (.tup [.p (.bool true), .p (.int .i64 (pos : Int)), .p (.int .i32 ((runeAt l pos).1 : Int))]) H (L.set i (.iter l (pos + (runeAt l pos).2))) :=
 zEx hi rfl fun F w β a hS he => by
  have hv := zL he y
  rw [hy] at hv
  have hblk : w.heap[β (.l i)]? = some (.stringIter ⟨l.toArray⟩ pos) := hS.objs (.l i) _ hi
  generalize hev : a.eval y = v at hv
  cases hv with | ad _ _ _ _ _ hvv =>
  have hv : v = .pointer (some ⟨β (.l i), 0, none⟩) := hvv _ hi rfl
  subst hv
  have hr := run_next_any_at (P := P) w (β (.l i)) ⟨l.toArray⟩ pos o.type hblk (by simpa [ByteArray.size] using hp)
  refine ⟨.tuple #[.bool true, .int .i64 pos, .int .i32 (Utf8.decode ⟨l.toArray⟩ pos).1], w.iterAt (β (.l i)) ⟨l.toArray⟩ (pos + (Utf8.decode ⟨l.toArray⟩ pos).2), .inl ?_, rfl, rfl, rfl, iterAt_size .., fun b hb => iterAt_other _ _ _ _ _ hb, ⟨rfl, rfl⟩, fun hst => ⟨iterAt_heap _ _ _ _ _ hblk, ?_⟩⟩
  ·simp only [execOp, ho, hev, Sem.run_bind, hr, Result.andThen_ok, Sem.run_pure]
  ·refine .tup _ [.bool true, .int .i64 pos, .int .i32 (Utf8.decode ⟨l.toArray⟩ pos).1] rfl fun j x v hx hv => ?_
   match j with
   | 0 => simp at hx hv; subst hx hv; exact .p (.bool ..)
   | 1 => simp at hx hv; subst hx hv; exact .p (.int ..)
   | 2 => simp at hx hv; subst hx hv; exact .p (.int ..)
   | j + 3 => simp at hx
theorem zKm {y : Operand} {l : List UInt8} {i pos : Nat} (ho : o.op = .next y true) (hy : evA env y = .ad (.l i) 0) (hi : L[i]? = some (.iter l pos)) (hp : ¬ pos < l.length) :
  OpR P o env H L (.tup [.p (.bool false)]) H L :=
 zQ fun F w β a hS he => by
  have hv := zL he y
  rw [hy] at hv
  have hblk : w.heap[β (.l i)]? = some (.stringIter ⟨l.toArray⟩ pos) := hS.objs (.l i) _ hi
  generalize hev : a.eval y = v at hv
  cases hv with | ad _ _ _ _ _ hvv =>
  have hv : v = .pointer (some ⟨β (.l i), 0, none⟩) := hvv _ hi rfl
  subst hv
  have hr := run_next_end_at (P := P) w (β (.l i)) ⟨l.toArray⟩ pos o.type hblk (by simpa [ByteArray.size] using hp)
  refine ⟨.tuple #[.bool false], ?_, ?_⟩
  ·simp only [execOp, ho, hev, Sem.run_bind, hr, Result.andThen_ok, Sem.run_pure]
  ·refine .tup _ [.bool false] rfl fun j x v hx hv => ?_
   match j with
   | 0 => simp at hx hv; subst hx hv; exact .p (.bool ..)
   | j + 1 => simp at hx
end
end Go.Awp
namespace Go.Awp
open Go.RowKit
section
variable {P : Program} {T : Tab} {Γ : Ctx} {env : Env} {H L L' : List AObj} {o : Oper} {Φ : Act → World → Prop}
theorem zPl {w : World} {β : Hd → Nat} {G : Hp} {x : AV} {v : Value} (hc : cl x = true) (h : RepT w β G (.p x) v) : RepT w β G (.p (.cell x)) v := by
 cases h with | p h => exact .p (.cell x v (zQp h hc) h)
theorem zJ8 {w : World} {β : Hd → Nat} {G : Hp} {x : AV} {v : Value} (h : RepT w β G (.p (.cell x)) v) : RepT w β G (.p x) v := by
 cases h with | p h => cases h with | cell _ _ _ h => exact .p h
theorem zPo (d : Nat) {x : AV} (hx : lk env d = .p x) (hc : cl x = true) (k : J Γ ((d, .p (.cell x)) :: env) H L Φ) : J Γ env H L Φ := fun a w β s =>
 k a w β ⟨s.sim, s.step, fun t => by
  rw [y4]
  split
  ·rename_i e
   have := s.env d
   rw [hx] at this
   rw [e]
   exact zPl hc this
  ·exact s.env t, s.size, s.defers⟩
end
section
variable {P : Program} {T : Tab} {env : Env} {H L : List AObj} {o : Oper} {x : TV}
def stepW (T : Tab) (env : Env) : Op → Option TV
 | .nilCheck y => match evA env y with
  | .p (.cell (.pp cs)) => some (.p (.pp cs))
  | _ => none
 | .binOp op t y z _ => match evA env y, evA env z, tyD T t with
  | .p (.cell .nilp), .p .nilp, .ptr => eqA op true
  | .p (.cell (.pp _)), .p .nilp, .ptr => eqA op false
  | _, _, _ => none
 | _ => none
theorem z8 (hT : TabOk P T) (h : stepW T env o.op = some x) : OpR P o env H L x H L := by
 generalize ho : o.op = op at h
 unfold stepW at h
 split at h
 ·split at h
  ·rename_i y _ cs hy
   obtain rfl := Option.some.inj h
   refine zQ fun F w β a hS he => ?_
   have hv := zL he y
   rw [hy] at hv
   have hv := zJ8 hv
   refine ⟨a.eval y, ?_, hv⟩
   have : ∃ ad, a.eval y = .pointer (some ad) := by
    generalize a.eval y = u at hv
    cases hv with | p hv => cases hv with | pp _ ad => exact ⟨ad, rfl⟩
   obtain ⟨ad, hd⟩ := this
   simp [execOp, ho, hd]
  ·cases h
 ·rename_i op t y z t2
  have key : ∀ (b : Bool), eqA op b = some x → (∀ F w β a, EnvR w β ⟨H, L, F⟩ env a → ∃ p : Option Addr, a.eval y = .pointer p ∧ p.isNone = b) → evA env z = .p .nilp → tyD T t = .ptr → OpR P o env H L x H L := by
   intro b hx hp hz hd
   refine zQ fun F w β a hS he => ?_
   obtain ⟨p, hv, rfl⟩ := hp F w β a he
   have hq := zL he z
   rw [hz] at hq
   have hv2 : a.eval z = .pointer none := by
    generalize a.eval z = q at hq
    cases hq with | p h => cases h; rfl
   obtain ⟨e, h1⟩ := zGu hT hd
   have hx' : eqA op (p.isNone && (none : Option Addr).isNone) = some x := by simpa using hx
   obtain ⟨c, rfl, h3⟩ := jR (P := P) (w := w) (t := t) hx' (zB2 h1 (.inr rfl)) (zAa t p none) (j7 ..)
   refine ⟨.bool c, ?_, .p (.bool ..)⟩
   simp only [execOp, ho, hv, hv2, Sem.run_bind]
   rw [eqGuard_at_pointer]
   simp [h3]
  split at h
  ·rename_i hy hz hd
   exact key true h (fun F w β a he => by
    have hv := zL he y
    rw [hy] at hv
    have hv := zJ8 hv
    generalize a.eval y = u at hv
    cases hv with | p hv => cases hv; exact ⟨none, rfl, rfl⟩) hz hd
  ·rename_i hy hz hd
   exact key false h (fun F w β a he => by
    have hv := zL he y
    rw [hy] at hv
    have hv := zJ8 hv
    generalize a.eval y = u at hv
    cases hv with | p hv => cases hv with | pp _ ad => exact ⟨some ad, rfl, rfl⟩) hz hd
  ·cases h
 ·cases h
end
section
variable {P : Program} {T : Tab} {Γ : Ctx} {env : Env} {H L : List AObj} {o : Oper} {x : TV} {Φ : Act → World → Prop}
theorem zQg (L : List AObj) (T e : Nat) (F : Nat → Prop) {k : Hd} {ob : AObj} (h : (⟨H, L ++ [.arr T true e []], F⟩ : Hp).get k = some ob) : (k = .l L.length ∧ ob = .arr T true e []) ∨ (⟨H, L, F⟩ : Hp).get k = some ob := by
 cases k with
 | o k => exact .inr h
 | l j =>
  simp only [Hp.get, List.getElem?_append] at h ⊢
  split at h
  ·exact .inr h
  ·rename_i hj
   have hlt := (List.getElem?_eq_some_iff.1 h).1
   simp at hlt
   have e0 : j - L.length = 0 := by omega
   rw [e0] at h
   simp at h
   exact .inl ⟨by rw [show j = L.length by omega], h.symm⟩
theorem zMk (L : List AObj) (T e : Nat) (F : Nat → Prop) {k : Hd} {ob : AObj} (h : (⟨H, L, F⟩ : Hp).get k = some ob) : (⟨H, L ++ [.arr T true e []], F⟩ : Hp).get k = some ob := by
 cases k with
 | o k => exact h
 | l j =>
  have hlt : j < L.length := (List.getElem?_eq_some_iff.1 (show L[j]? = some ob from h)).1
  simp only [Hp.get] at h ⊢
  rw [List.getElem?_append_left hlt]; exact h
theorem zD3 {L : List AObj} {T e : Nat} {F : Nat → Prop} {k : Hd} (h : (⟨H, L ++ [.arr T true e []], F⟩ : Hp).live k) : (⟨H, L, F⟩ : Hp).live k := by
 obtain ⟨ob, ho, hne⟩ := h
 rcases zQg L T e F ho with ⟨_, rfl⟩ | h
 ·cases hne
 ·exact ⟨ob, h, hne⟩
theorem zJp {w : World} {β : Hd → Nat} {F : Nat → Prop} (T : Nat) {e : Nat} (he : 0 < e) (hS : Sim w β ⟨H, L, F⟩) : Sim w β ⟨H, L ++ [.arr T true e []], F⟩ ∧ Step w β ⟨H, L, F⟩ w β ⟨H, L ++ [.arr T true e []], F⟩ := by
 have hst : Step w β ⟨H, L, F⟩ w β ⟨H, L ++ [.arr T true e []], F⟩ :=
  ⟨rfl, rfl, rfl, Nat.le_refl _, fun b _ hf => ⟨rfl, hf.1, fun k hk => hf.2 k (zD3 hk)⟩, fun _ _ => rfl, rfl, fun k ob ho => ⟨ob, zMk L T e F ho, ObjGo.refl ..⟩⟩
 refine ⟨⟨fun k ob ho => ?_, fun k j hk hj => hS.inj k j (zD3 hk) (zD3 hj), hS.ext, fun k hk => hS.disj k (zD3 hk), hS.flt⟩, hst⟩
 rcases zQg L T e F ho with ⟨_, rfl⟩ | h
 ·exact ⟨he, fun h => by cases h⟩
 ·exact (hS.objs k ob h).mono hst rfl
theorem zIz {w : World} {β : Hd → Nat} {F : Nat → Prop} (T e : Nat) {d : AV} {v : Value} (hd : d = .nils ∨ d = .cz) (h : RepT w β ⟨H, L, F⟩ (.p d) v) : RepT w β ⟨H, L ++ [.arr T true e []], F⟩ (.sl (.l L.length) 0 0 0) v := by
 have hg : (⟨H, L ++ [.arr T true e []], F⟩ : Hp).get (.l L.length) = some (.arr T true e []) := zDg H L _ F
 obtain ⟨ao, hv⟩ : ∃ ao, v = .slice ao 0 0 := by
  rcases hd with rfl | rfl <;> cases h with | p h => cases h; exact ⟨_, rfl⟩
 subst hv
 refine .sl _ _ _ _ _ rfl ⟨_, hg, fun T' b' e' rows' h => by cases h; exact Nat.le_refl _⟩ fun T' b' e' rows' h _ => ?_
 rw [hg] at h
 cases h
 exact ⟨Nat.le_refl _, fun _ _ => ⟨_, rfl⟩, fun h => absurd rfl (h rfl)⟩
theorem zNe (t Ty : Nat) {e : Nat} {d : AV} (he : Nat.blt 0 e = true) (ht : lk env t = .p d) (hd : d = .nils ∨ d = .cz) (kk : J Γ ((t, .sl (.l L.length) 0 0 0) :: env) H (L ++ [AObj.arr Ty true e []]) Φ) : J Γ env H L Φ := fun a w β s => by
 simp only [Nat.blt_eq] at he
 obtain ⟨h1, h2⟩ := zJp Ty he s.sim
 refine kk a w β ⟨h1, s.step.trans h2, fun q => ?_, s.size, s.defers⟩
 rw [y4]
 split
 ·rename_i hq
  subst hq
  have := s.env q
  rw [ht] at this
  exact zIz Ty e hd this
 ·exact (s.env q).mono h2
theorem zWe (i k Ty : Nat) {e Tb : Nat} {d : AV} {cs : List TV} (he : Nat.blt 0 e = true) (hi : L[i]? = some (.box Tb cs)) (hk : cs[k]? = some (.p d)) (hd : d = .nils ∨ d = .cz) (kk : J Γ env H ((L ++ [AObj.arr Ty true e []]).set i (.box Tb (cs.set k (.sl (.l L.length) 0 0 0)))) Φ) : J Γ env H L Φ := fun a w β s => by
 simp only [Nat.blt_eq] at he
 obtain ⟨h1, h2⟩ := zJp Ty he s.sim
 have hlt : i < L.length := (List.getElem?_eq_some_iff.1 hi).1
 have hi2 : (L ++ [AObj.arr Ty true e []])[i]? = some (.box Tb cs) := by rw [List.getElem?_append_left hlt]; exact hi
 obtain ⟨s1, s2⟩ := upd (w' := w) (G' := ⟨H, (L ++ [AObj.arr Ty true e []]).set i (.box Tb (cs.set k (.sl (.l L.length) 0 0 0))), Γ.F⟩) (h := .l i) (o' := .box Tb (cs.set k (.sl (.l L.length) 0 0 0))) (b' := β (.l i)) h1 hi2 rfl rfl rfl (Nat.le_refl _) (fun _ _ _ => rfl) rfl (.inl rfl) ⟨rfl, by simp, rfl⟩
  (fun q => by
   cases q with
   | o q => simp [Hp.get]
   | l j =>
    simp only [Hp.get, List.getElem?_set, Hd.l.injEq]
    by_cases e : i = j
    ·subst e; simp; omega
    ·rw [if_neg e, if_neg (fun q => e q.symm)]) rfl h1.ext
 have eβ : (fun q => if q = Hd.l i then β (.l i) else β q) = β := by
  funext q
  split
  ·rename_i e; rw [e]
  ·rfl
 rw [eβ] at s1 s2
 have hok := s.sim.objs (.l i) _ hi
 obtain ⟨arr, g1, g2, g3⟩ := hok
 have st := h2.trans s1
 refine kk a w β ⟨s2 ⟨arr, g1, by rw [List.length_set]; exact g2, fun j x hj => ?_⟩, s.step.trans st, s.env.mono st, s.size, s.defers⟩
 by_cases e : k = j
 ·subst e
  have hkl := (List.getElem?_eq_some_iff.1 hk).1
  rw [List.getElem?_set, if_pos rfl, if_pos hkl] at hj
  obtain rfl := Option.some.inj hj
  obtain ⟨v, hv, hr⟩ := g3 k _ hk
  exact ⟨v, hv, (zIz Ty e hd hr).mono s1⟩
 ·rw [List.getElem?_set, if_neg e] at hj
  obtain ⟨v, hv, hr⟩ := g3 j x hj
  exact ⟨v, hv, hr.mono st⟩
end
section
variable {P : Program} {T : Tab} {env : Env} {H L : List AObj} {o : Oper} {x : TV} {w : World} {β : Hd → Nat} {F : Nat → Prop}
theorem opr_updH {i : Nat} {ob ob' : AObj} (hi : H[i]? = some ob) (hne : ob.off = false) (hx : ob'.ext = true) (h : ∀ F w β a, Sim w β ⟨H, L, F⟩ → EnvR w β ⟨H, L, F⟩ env a → ∃ u w' b', (execOp a.eval o).run P w = .ok (.value u) w' ∧
  w'.os = w.os ∧ w'.tape = w.tape ∧ w'.output = w.output ∧ w.heap.size ≤ w'.heap.size ∧ (∀ b, b < w.heap.size → b ≠ β (.o i) → w'.heap[b]? = w.heap[b]?) ∧ (b' = β (.o i) ∨ w.heap.size ≤ b') ∧ ObjGo w w' (β (.o i)) b' ob ob' ∧
   ∀ β', (∀ k, β' k = if k = .o i then b' else β k) → Step w β ⟨H, L, F⟩ w' β' ⟨H.set i ob', L, F⟩ → ObjOk w' β' ⟨H.set i ob', L, F⟩ b' ob' ∧ RepT w' β' ⟨H.set i ob', L, F⟩ x u) : OpR P o env H L x (H.set i ob') L := by
 intro F w β a next Q hS he hn
 obtain ⟨u, w', b', h1, h2, h3, h4, h5, h6, h6', h7, h8⟩ := h F w β a hS he
 have hlt : i < H.length := (List.getElem?_eq_some_iff.1 hi).1
 obtain ⟨s1, s2⟩ := upd (w' := w') (G' := ⟨H.set i ob', L, F⟩) (h := .o i) (o' := ob') (b' := b') hS hi h2 h3 h4 h5 h6 hne h6' h7
  (fun k => by
   cases k with
   | l k => simp [Hp.get]
   | o j =>
    simp only [Hp.get, List.getElem?_set, Hd.o.injEq]
    by_cases e : i = j
    ·subst e; simp [hlt]
    ·rw [if_neg e, if_neg (fun q => e q.symm)]) rfl (fun q hq => by
   rcases List.mem_or_eq_of_mem_set hq with hq | rfl
   ·exact hS.ext q hq
   ·exact hx)
 obtain ⟨h9, h10⟩ := h8 _ (fun _ => rfl) s1
 unfold Oper.wp
 rw [h1]
 exact hn _ _ u (s2 h9) s1 h10
theorem zGz {i : Nat} {Ty : TypeId} {e : Nat} {rows : List AV} (hS : Sim w β ⟨H, L, F⟩) (hi : H[i]? = some (.arr Ty true e rows)) (hr : rows.length ≠ 0) : ∃ cs : Array Value, w.heap[β (.o i)]? = some (.cells cs Ty (0, 0)) ∧ rows.length * e ≤ cs.size ∧ 0 < e ∧ News w (Free β ⟨H, L, F⟩) e rows (cs.toList.take (rows.length * e)) := by
 obtain ⟨cs, fr, h1, h2, _, h4, h5, h6, h7⟩ := (hS.objs (.o i) _ hi).2 (AObj.off_arr.2 fun _ => hr)
 obtain rfl := h4 rfl
 refine ⟨cs, h1, h2, h5, h6, by simp; omega, fun p q r x hp hq => ?_⟩
 obtain ⟨v, hv, hr⟩ := h7 p q r x hp hq
 have hpl := (List.getElem?_eq_some_iff.1 hp).1
 have hql : q < e := by rw [← h6 r (List.mem_of_getElem? hp)]; exact (List.getElem?_eq_some_iff.1 hq).1
 have hlt : p * e + q < rows.length * e := by
  have : (p + 1) * e ≤ rows.length * e := Nat.mul_le_mul_right _ (by omega)
  rw [Nat.add_mul] at this; omega
 exact ⟨v, by rw [List.getElem?_take, if_pos hlt]; simpa using hv, hr⟩
theorem zCm {i : Nat} {ob ob' : AObj} (hi : H[i]? = some ob) : (⟨H.set i ob', L, F⟩ : Hp).get (.o i) = some ob' := by
 have hlt : i < H.length := (List.getElem?_eq_some_iff.1 hi).1
 simp [Hp.get, hlt]
theorem zUi {i : Nat} {T : TypeId} {e : Nat} {ob' : AObj} (hi : H[i]? = some (.arr T true e [])) (hx : ∃ rows, ob' = .arr T true e rows) (h : ∀ F w β a, Sim w β ⟨H, L, F⟩ → EnvR w β ⟨H, L, F⟩ env a → ∃ (u : Value) (ob : Obj) (w0 : World), (execOp a.eval o).run P w = .ok (.value u) (w0.alloc ob) ∧ w0.heap = w.heap ∧ w0.os = w.os ∧ w0.tape = w.tape ∧ w0.output = w.output ∧
  ∀ β', (∀ k, β' k = if k = .o i then w.heap.size else β k) → Step w β ⟨H, L, F⟩ (w0.alloc ob) β' ⟨H.set i ob', L, F⟩ →
   ObjOk (w0.alloc ob) β' ⟨H.set i ob', L, F⟩ w.heap.size ob' ∧ RepT (w0.alloc ob) β' ⟨H.set i ob', L, F⟩ x u) : OpR P o env H L x (H.set i ob') L := by
 intro F w β a next Q hS he hn
 obtain ⟨u, ob, w0, h1, g1, g2, g3, g4, h2⟩ := h F w β a hS he
 have hlt : i < H.length := (List.getElem?_eq_some_iff.1 hi).1
 have hblk : ∀ b, b < w.heap.size → (w0.alloc ob).heap[b]? = w.heap[b]? := fun b hb => by rw [← g1] at hb ⊢; exact zAe w0 ob b hb
 have hsz : w.heap.size ≤ (w0.alloc ob).heap.size := by rw [← g1]; simp
 have hget : ∀ k, (⟨H.set i ob', L, F⟩ : Hp).get k = if k = .o i then some ob' else (⟨H, L, F⟩ : Hp).get k := fun k => by
  cases k with
  | l k => simp [Hp.get]
  | o j =>
   simp only [Hp.get, List.getElem?_set, Hd.o.injEq]
   by_cases e : i = j
   ·subst e; simp [hlt]
   ·rw [if_neg e, if_neg (fun q => e q.symm)]
 obtain ⟨β', hβ⟩ : ∃ β' : Hd → Nat, ∀ k, β' k = if k = .o i then w.heap.size else β k := ⟨_, fun _ => rfl⟩
 have hlv : ∀ k, k ≠ .o i → (⟨H.set i ob', L, F⟩ : Hp).live k → (⟨H, L, F⟩ : Hp).live k := by
  rintro k hk ⟨x, hx, hn⟩
  rw [hget, if_neg hk] at hx
  exact ⟨x, hx, hn⟩
 have hstep : Step w β ⟨H, L, F⟩ (w0.alloc ob) β' ⟨H.set i ob', L, F⟩ := by
  refine ⟨g2, g3, g4, hsz, fun b hb hf => ⟨hblk b hb, hf.1, fun k hk => ?_⟩, fun b hb => hblk b (hS.flt b hb), rfl, fun k x hxk => ?_⟩
  ·rw [hβ]
   by_cases e : k = .o i
   ·rw [if_pos e]; omega
   ·rw [if_neg e]; exact hf.2 k (hlv k e hk)
  ·by_cases e : k = .o i
   ·subst e
    obtain ⟨rows, rfl⟩ := hx
    rw [show (⟨H, L, F⟩ : Hp).get (.o i) = H[i]? from rfl, hi] at hxk
    obtain rfl := Option.some.inj hxk
    exact ⟨.arr T true e rows, by rw [hget, if_pos rfl], rfl, rfl, rfl, Nat.zero_le _, fun h => by cases h⟩
   ·refine ⟨x, by rw [hget, if_neg e]; exact hxk, ?_⟩
    rw [hβ, if_neg e]
    exact ObjGo.same fun hne => hblk _ (hS.lt ⟨x, hxk, hne⟩)
 obtain ⟨h3, h4⟩ := h2 _ hβ hstep
 have hsim : Sim (w0.alloc ob) β' ⟨H.set i ob', L, F⟩ := by
  refine ⟨fun k x hxk => ?_, fun k1 k2 l1 l2 he => ?_, (fun q hq => by
   rcases List.mem_or_eq_of_mem_set hq with hq | rfl
   ·exact hS.ext q hq
   ·obtain ⟨rows, rfl⟩ := hx; rfl), fun k hk => ?_, fun b hb => Nat.lt_of_lt_of_le (hS.flt b hb) hsz⟩
  ·by_cases e : k = .o i
   ·subst e
    rw [hget, if_pos rfl] at hxk
    obtain rfl := Option.some.inj hxk
    rw [hβ, if_pos rfl]
    exact h3
   ·rw [hget, if_neg e] at hxk
    rw [hβ, if_neg e]
    rcases qS x with hd | hd
    ·exact (hS.objs k x hxk).of_off hd
    ·exact (hS.objs k x hxk).mono hstep (hblk _ (hS.lt ⟨x, hxk, hd⟩))
  ·rw [hβ, hβ] at he
   by_cases e1 : k1 = .o i <;> by_cases e2 : k2 = .o i
   ·rw [e1, e2]
   ·rw [if_pos e1, if_neg e2] at he
    have := hS.lt (hlv k2 e2 l2); omega
   ·rw [if_neg e1, if_pos e2] at he
    have := hS.lt (hlv k1 e1 l1); omega
   ·rw [if_neg e1, if_neg e2] at he
    exact hS.inj _ _ (hlv _ e1 l1) (hlv _ e2 l2) he
  ·rw [hβ]
   by_cases e : k = .o i
   ·rw [if_pos e]
    intro hb; have := hS.flt _ hb; omega
   ·rw [if_neg e]; exact hS.disj k (hlv k e hk)
 unfold Oper.wp
 rw [h1]
 exact hn _ _ u hsim hstep h4
theorem zMd {t tx : TypeId} {y z : Operand} {e i : Nat} {te : TyI} {b : Bool} {rows : List AV} {s : TV} (hT : TabOk P T) (ho : o.op = .call { callee := .builtin .append, args := #[y, z], argTypes := #[t, tx] })
  (ht : appT T t tx = some (e, te, b)) (hy : evA env y = .sl (.o i) 0 0 0) (hi : H[i]? = some (.arr e true te.size [])) (hz : evA env z = s) (hs : SrcA H L s rows) (hbs : b = true ↔ ∃ l, s = .p (.str l)) (hc : clR rows) (he : ∀ r ∈ rows, (cellsOf r).length = te.size) (hb0 : 0 < te.bytes)
  (h0 : 0 < rows.length) (hfit : rows.length * te.bytes ≤ 140737488355328) : OpR P o env H L (.sl (.o i) rows.length 0 rows.length) (H.set i (.arr e true te.size rows)) L :=
 zUi hi ⟨_, rfl⟩ fun F w β a hS hen => by
  have hpos := (hS.objs (.o i) _ hi).1
  obtain ⟨at', hb1, _⟩ := zAb hT ht
  obtain ⟨inf, zv, i1, i2, i3, i4, i5⟩ := at'.info
  have hvz := zL hen z
  rw [hz] at hvz
  obtain ⟨news, n1, n2⟩ := hs.src' hS at' hb1 hvz hc he hbs
  obtain ⟨ao, hvy⟩ : ∃ ao, a.eval y = .slice ao 0 0 := by
   have h := zL hen y
   rw [hy] at h
   generalize a.eval y = u at h
   cases h with | sl _ _ _ _ _ _ _ hv => exact (hv _ _ _ _ hi rfl).off rfl rfl
  have hold : (Builtin.firstCells inf.size 0 (.slice ao 0 0)).run P w.drew = .ok ([] : List Value).toArray w.drew := by
   cases ao with
   | none => exact run_firstCells_none w.drew inf.size 0 0 0
   | some a' => exact run_firstCells_some w.drew inf.size 0 a' 0 0 [] (by simp) (by intro _ _ h'; simp at h')
  have hmax := zEu hb0 hfit
  have hrun := run_append_grow_src (P := P) w t tx o.type e inf zv at'.ut i1 i2 ao 0 0 [] hold (a.eval z) rows.length news (by rw [i3]; exact n1) (by omega) (by omega) (by rw [i4]; exact fits (by omega) (by simpa using hfit))
  rw [Nat.zero_add] at hrun
  refine ⟨_, _, w.drew, zAs (P := P) ho rfl (by rw [hvy]; exact hrun), rfl, rfl, rfl, rfl, fun β' hβ hst => ?_⟩
  have hblk := yP w.drew (.cells (([] ++ news).toArray ++ Builtin.zeroCells zv.cells (grownCap w rows.length 0 e - rows.length)) e)
  have hge := grownCap_ge w rows.length 0 e
  have hle := grownCap_le_maxLen w rows.length 0 e (by unfold maxLen; omega)
  have hsz : (([] ++ news).toArray ++ Builtin.zeroCells zv.cells (grownCap w rows.length 0 e - rows.length)).size = grownCap w rows.length 0 e * te.size := by
   rw [Array.size_append, size_zeroCells, i5]
   simp only [List.nil_append, List.size_toArray, n2.len]
   rw [← Nat.add_mul]; congr 1; omega
  constructor
  ·refine yX (w := w) (N := Free β ⟨H, L, F⟩) hblk hpos ?_ (fun x v h => h.mono hst.size hst.frame)
   rw [Array.toList_append, List.nil_append, ← n2.len, List.take_left]; exact n2
  ·refine .sl _ _ _ _ _ rfl ⟨_, zCm hi, fun T' b' e' rows' h => by cases h; exact Nat.le_refl _⟩ fun T' b' e' rows' h _ => ?_
   rw [zCm hi] at h
   cases h
   refine ⟨by omega, fun _ h => by omega, fun _ => ⟨_, _, rfl, hge, hle, fun _ => ?_, fun _ _ _ => ?_⟩⟩
   ·rw [hβ, if_pos rfl]; simp
   ·rw [hβ, if_pos rfl]
    unfold csize
    have hb2 : (w.drew.alloc (.cells (([] ++ news).toArray ++ Builtin.zeroCells zv.cells (grownCap w rows.length 0 e - rows.length)) e)).heap[w.heap.size]? = _ := hblk
    rw [hb2]; exact hsz.symm
theorem zI0 {t tx : TypeId} {y z : Operand} {e i : Nat} {te : TyI} {b : Bool} {s : TV} (hT : TabOk P T) (ho : o.op = .call { callee := .builtin .append, args := #[y, z], argTypes := #[t, tx] })
  (ht : appT T t tx = some (e, te, b)) (hy : evA env y = .sl (.o i) 0 0 0) (hi : H[i]? = some (.arr e true te.size [])) (hz : evA env z = s) (hs : SrcA H L s []) (hbs : b = true ↔ ∃ l, s = .p (.str l)) : OpR P o env H L (.sl (.o i) 0 0 0) H L :=
 zQ fun F w β a hS hen => by
  obtain ⟨at', hb1, _⟩ := zAb hT ht
  obtain ⟨inf, zv, i1, i2, i3, i4, i5⟩ := at'.info
  have hvz := zL hen z
  rw [hz] at hvz
  obtain ⟨news, n1, n2⟩ := hs.src' hS at' hb1 hvz (by intro r hr; simp at hr) (by intro r hr; simp at hr) hbs
  have hn0 : news = [] := List.eq_nil_of_length_eq_zero (by rw [n2.len]; simp)
  subst hn0
  have hvy := zL hen y
  rw [hy] at hvy
  obtain ⟨ao, hv⟩ : ∃ ao, a.eval y = .slice ao 0 0 := by
   generalize a.eval y = u at hvy
   cases hvy with | sl _ _ _ _ _ _ _ hv => exact (hv _ _ _ _ hi rfl).off rfl rfl
  refine ⟨_, zAs (P := P) (w' := w) (v := a.eval y) ho rfl ?_, hvy⟩
  have hu := at'.ut
  have hsl := n1.len w
  have hsc := n1.cells
  rw [← i3] at hsc
  simp only [List.length_nil] at hsl hsc
  rw [hv]
  rcases n1.kind with ⟨e', hk⟩ | hk <;> cases ao <;> simp [Builtin.append_, run_underlying hu, run_underlying hk, sizeOf, typeInfo, i1, hsl, hsc, storeCells]
theorem zMq {t tx : TypeId} {y z : Operand} {e n i : Nat} {te : TyI} {b : Bool} {rows0 rows : List AV} {s : TV} {Ty : TypeId} (hT : TabOk P T) (ho : o.op = .call { callee := .builtin .append, args := #[y, z], argTypes := #[t, tx] })
  (ht : appT T t tx = some (e, te, b)) (hy : evA env y = .sl (.o i) n 0 n) (hi : H[i]? = some (.arr Ty true te.size rows0)) (hn : rows0.length = n) (hTy : Ty = e) (hz : evA env z = s) (hs : SrcA H L s rows) (hbs : b = true ↔ ∃ l, s = .p (.str l)) (hc : clR rows) (he : ∀ r ∈ rows, (cellsOf r).length = te.size) (hb0 : 0 < te.bytes)
  (hfit : (n + rows.length) * te.bytes ≤ 140737488355328) (hne : rows0.length ≠ 0) : OpR P o env H L (.sl (.o i) (n + rows.length) 0 (n + rows.length)) (H.set i (.arr Ty true te.size (rows0 ++ rows))) L :=
 opr_updH hi (AObj.off_arr.2 fun _ => hne) rfl fun F w β a hS hen => by
  subst hTy
  obtain ⟨at', hb1, _⟩ := zAb hT ht
  obtain ⟨inf, zv, i1, i2, i3, i4, i5⟩ := at'.info
  have hvz := zL hen z
  rw [hz] at hvz
  obtain ⟨news, n1, n2⟩ := hs.src' hS at' hb1 hvz hc he hbs
  obtain ⟨cs, c1, c2, hpos, c3⟩ := zGz hS hi hne
  have hvy := zL hen y
  rw [hy] at hvy
  generalize hvv : a.eval y = vy at hvy
  cases hvy with | sl _ _ _ _ _ _ _ hv =>
  obtain ⟨ao, cap, rfl, hlc, hcm, hadd, hcap⟩ := (hv _ _ _ _ hi hn).on fun _ => by omega
  obtain rfl := hadd (.inl rfl)
  rw [Nat.zero_mul] at hvv
  have hcap2 := hcap rfl rfl rfl
  have hcs : csize w (β (.o i)) = cs.size := by unfold csize; rw [c1]
  have hmax := zEu hb0 hfit
  have hnl := n2.len
  subst hn
  by_cases hroom : rows0.length + rows.length ≤ cap
  ·have hle : (rows0.length + rows.length) * te.size ≤ cs.size := by rw [← hcs, ← hcap2]; exact Nat.mul_le_mul_right _ hroom
   rw [Nat.add_mul] at hle
   have hrun := zBu (P := P) w t tx o.type Ty inf at'.ut i1 (β (.o i)) rows0.length cap cs Ty c1 (a.eval z) rows.length news (by rw [i3]; exact n1) hroom (by rw [i3]; omega)
   rw [i3, ← hvv] at hrun
   have hblk := setRow_heap w (β (.o i)) cs (cs.toList.take (rows0.length * te.size) ++ news ++ cs.toList.drop (rows0.length * te.size + news.length)).toArray Ty (0, 0) c1
   have hlen : (cs.toList.take (rows0.length * te.size) ++ news ++ cs.toList.drop (rows0.length * te.size + news.length)).length = cs.size := by simp; omega
   have hcs2 : csize (w.setRow (β (.o i)) (cs.toList.take (rows0.length * te.size) ++ news ++ cs.toList.drop (rows0.length * te.size + news.length)).toArray) (β (.o i)) = csize w (β (.o i)) := by
    rw [hcs]; unfold csize; rw [hblk]; simpa using hlen
   refine ⟨_, _, β (.o i), zAs (P := P) ho rfl hrun, rfl, rfl, rfl, by simp, fun b _ hb => setRow_other w _ b _ hb, .inl rfl, ⟨rfl, rfl, rfl, by simp, fun _ _ => ⟨rfl, hcs2⟩⟩, fun β' hβ hst => ⟨?_, ?_⟩⟩
   ·refine yX (w := w) (N := Free β ⟨H, L, F⟩) hblk hpos ?_ (fun x v h => h.mono hst.size hst.frame)
    have hap := c3.append n2
    have hl2 : (cs.toList.take (rows0.length * te.size) ++ news).length = (rows0 ++ rows).length * te.size := hap.len
    rw [← hl2, List.take_left]; exact hap
   ·refine .sl _ _ _ _ _ rfl ⟨_, zCm hi, fun T' b' e' rows' h => by cases h; simp⟩ fun T' b' e' rows' h _ => ?_
    rw [zCm hi] at h
    cases h
    refine ⟨by omega, fun _ h => by omega, fun _ => ⟨_, _, rfl, hroom, hcm, fun _ => ?_, fun _ _ _ => ?_⟩⟩
    ·rw [hβ, if_pos rfl]; simp
    ·rw [hβ, if_pos rfl, hcs2]; exact hcap2
  ·have hold : (Builtin.firstCells inf.size rows0.length (.slice (some ⟨β (.o i), 0, none⟩) rows0.length cap)).run P w.drew = .ok (cs.toList.take (rows0.length * te.size)).toArray w.drew := by
    rw [i3]
    refine run_firstCells_some w.drew te.size rows0.length ⟨β (.o i), 0, none⟩ rows0.length cap _ c3.len (fun j u hu => ?_)
    rw [List.getElem?_take] at hu
    split at hu
    ·rw [Addr.add_lit, Nat.zero_add]
     have hc := cell_of_row w (β (.o i)) j cs Ty (0, 0) c1
     rw [show (w.drew.cell? ⟨β (.o i), j, none⟩) = w.cell? ⟨β (.o i), j, none⟩ from rfl, hc]
     simpa using hu
    ·cases hu
   have hrun := run_append_grow_src (P := P) w t tx o.type Ty inf zv at'.ut i1 i2 (some ⟨β (.o i), 0, none⟩) rows0.length cap _ hold (a.eval z) rows.length news (by rw [i3]; exact n1) (by omega) (by omega) (by rw [i4]; exact fits (by omega) hfit)
   have hge := grownCap_ge w (rows0.length + rows.length) cap Ty
   have hle := grownCap_le_maxLen w (rows0.length + rows.length) cap Ty (by unfold maxLen; omega)
   rw [← hvv] at hrun
   generalize hgc : grownCap w (rows0.length + rows.length) cap Ty = gc at hrun hge hle
   have hap := c3.append n2
   have hblk := yP w.drew (.cells ((cs.toList.take (rows0.length * te.size) ++ news).toArray ++ Builtin.zeroCells zv.cells (gc - (rows0.length + rows.length))) Ty)
   have hsz : ((cs.toList.take (rows0.length * te.size) ++ news).toArray ++ Builtin.zeroCells zv.cells (gc - (rows0.length + rows.length))).size = gc * te.size := by
    rw [Array.size_append, size_zeroCells, i5, List.size_toArray, hap.len, List.length_append, ← Nat.add_mul]; congr 1; omega
   have hcs2 : csize (w.drew.alloc (.cells ((cs.toList.take (rows0.length * te.size) ++ news).toArray ++ Builtin.zeroCells zv.cells (gc - (rows0.length + rows.length))) Ty)) w.heap.size = gc * te.size := by
    unfold csize
    have hb2 : (w.drew.alloc (.cells ((cs.toList.take (rows0.length * te.size) ++ news).toArray ++ Builtin.zeroCells zv.cells (gc - (rows0.length + rows.length))) Ty)).heap[w.heap.size]? = _ := hblk
    rw [hb2]; exact hsz
   refine ⟨_, _, w.heap.size, zAs (P := P) ho rfl hrun, rfl, rfl, rfl, ?_, fun b hb _ => zAe w.drew _ b hb, .inr (Nat.le_refl _), ⟨rfl, rfl, rfl, by simp, fun _ hl => ?_⟩, fun β' hβ hst => ⟨?_, ?_⟩⟩
   ·show w.drew.heap.size ≤ _
    simp
   ·exfalso
    simp at hl
    subst hl
    simp at hroom
    omega
   ·refine yX (w := w) (N := Free β ⟨H, L, F⟩) hblk hpos ?_ (fun x v h => h.mono hst.size hst.frame)
    rw [Array.toList_append, ← hap.len, List.toList_toArray, List.take_left]; exact hap
   ·refine .sl _ _ _ _ _ rfl ⟨_, zCm hi, fun T' b' e' rows' h => by cases h; simp⟩ fun T' b' e' rows' h _ => ?_
    rw [zCm hi] at h
    cases h
    refine ⟨by omega, fun _ h => by omega, fun _ => ⟨_, _, rfl, hge, hle, fun _ => ?_, fun _ _ _ => ?_⟩⟩
    ·rw [hβ, if_pos rfl]; simp
    ·rw [hβ, if_pos rfl, hcs2]
theorem qA {t tx : TypeId} {y z : Operand} {e n i : Nat} {te : TyI} {b : Bool} {rows0 rows : List AV} {s : TV} {Ty : TypeId} (hT : TabOk P T) (ho : o.op = .call { callee := .builtin .append, args := #[y, z], argTypes := #[t, tx] })
  (ht : appT T t tx = some (e, te, b)) (hy : evA env y = .sl (.o i) n 0 n) (hi : H[i]? = some (.arr Ty true te.size rows0)) (hn : rows0.length = n) (hTy : Ty = e) (hz : evA env z = s) (hs : SrcA H L s rows) (hbs : b = true ↔ ∃ l, s = .p (.str l)) (hc : clR rows) (he : ∀ r ∈ rows, (cellsOf r).length = te.size) (hb0 : 0 < te.bytes)
  (hfit : (n + rows.length) * te.bytes ≤ 140737488355328) : OpR P o env H L (.sl (.o i) (n + rows.length) 0 (n + rows.length)) (H.set i (.arr Ty true te.size (rows0 ++ rows))) L := by
 cases rows0 with
 | nil =>
  subst hn hTy
  cases rows with
  | nil =>
   rw [List.append_nil, zIx hi]
   exact zI0 hT ho ht hy hi hz hs hbs
  | cons r rs =>
   have := zMd hT ho ht hy hi hz hs hbs hc he hb0 (by simp) (by simpa using hfit)
   simpa using this
 | cons r0 rs0 => exact zMq hT ho ht hy hi hn hTy hz hs hbs hc he hb0 hfit (by simp)
end
end Go.Awp
