/- Contracts and plain laws, several texts joined: F09f, F09g, Go2, Tr1, F10, F10b. -/
import Derived.Test.YtfnpelogfcnanaaGreatDoorGo
import Derived.Test.YtfnpelogfcnanaaGreatDoorM2
import Derived.Test.YtfnpelogfcnanaaGreatDoorProg
/- keys.Name and the reference's; what the laws of chapter 9 fix. -/
namespace Go.Proofs.YtfnpelogfcnanaaGreatDoor
set_option maxRecDepth 20000
open Go.Awp
def okB (l : List UInt8) : Bool := l.all fun b => !(b == 0) && !(b == 47)
/-- May a name be? -/
def nameB (l : List UInt8) : Bool := okB l && !(l == []) && decide ((l.length : Int) ≤ 32) && !(l == [46]) && !(l == [46, 46])
theorem okB_iff {l : List UInt8} : okB l = true ↔ ∀ (j : Nat) (b : UInt8), l[j]? = some b → b ≠ 0 ∧ b ≠ 47 := by
  unfold okB
  rw [List.all_eq_true]
  constructor
  · intro h j b hb
    have := h b (List.mem_of_getElem? hb)
    simpa using this
  · intro h b hb
    obtain ⟨j, hj⟩ := List.getElem?_of_mem hb
    simpa using h j b hj
structure NI9 (l : List UInt8) where
  pos : Nat
  h : pos ≤ l.length
  ok : ∀ (j : Nat) (b : UInt8), j < pos → l[j]? = some b → b ≠ 0 ∧ b ≠ 47
set_option maxHeartbeats 4000000 in
theorem kname_spec (l : List UInt8) : Con Tryz.prog 131 [.p (.str l)] [] (.p (.bool (nameB l))) [] [] := by
  refine con_of Tryz.func131 rfl (by kernel_rfl) rfl fun F w0 β0 => ?_
  refine K_tell rfl ?_
  refine go ?_
  refine K_op rfl rfl (opr_range hT rfl rfl rfl) rfl ?_
  refine go ?_
  refine J_loop (fun _ => [(0, .p (.str l)), (6, .ad (.l 0) 0)]) (fun _ => []) (fun s : NI9 l => [.iter l s.pos]) (fun s => l.length - s.pos) ⟨0, by omega, fun j b h => by omega⟩ ⟨rfl, rfl, trivial⟩ rfl rfl (fun s => ?_)
  by_cases hp : s.pos < l.length
  · have hb : l[s.pos]? = some l[s.pos] := List.getElem?_eq_getElem hp
    obtain ⟨r1, r2⟩ := runeAt_cont l s.pos
    have hle := runeAt_le l s.pos
    refine go ?_
    refine K_op rfl rfl (opr_next rfl rfl rfl hp) rfl ?_
    refine go ?_
    refine J_cond rfl (fun hc => ?_) (fun hc => ?_)
    · have e : nameB l = false := by
        have : okB l = false := by
          cases hk : okB l with
          | false => rfl
          | true =>
            obtain ⟨h1, h2⟩ := okB_iff.1 hk s.pos _ hb
            simp only [Bool.or_eq_true, beq_iff_eq] at hc
            by_cases ha : l[s.pos].toNat < 128
            · rw [runeAt_ascii hb ha] at hc
              rcases hc with hc | hc
              · exact absurd (UInt8.toNat_inj.1 (show l[s.pos].toNat = (0 : UInt8).toNat by simpa using hc)) h1
              · exact absurd (UInt8.toNat_inj.1 (show l[s.pos].toNat = (47 : UInt8).toNat by simp only [] at hc; show _ = 47; omega)) h2
            · have := (runeAt_high hb (by omega)).1
              omega
        unfold nameB; rw [this]; rfl
      rw [e]
      refine go ?_
      exact J_done hT rfl rfl rfl
    · simp only [Bool.or_eq_false_iff, beq_eq_false_iff_ne] at hc
      have hb1 : l[s.pos] ≠ 0 ∧ l[s.pos] ≠ 47 := by
        by_cases ha : l[s.pos].toNat < 128
        · rw [runeAt_ascii hb ha] at hc
          simp only [] at hc
          refine ⟨fun e => hc.1 (by rw [e]; rfl), fun e => hc.2 (by rw [e]; rfl)⟩
        · refine ⟨fun e => ?_, fun e => ?_⟩
          · rw [e] at ha; exact ha (by decide)
          · rw [e] at ha; exact ha (by decide)
      have hw : 1 ≤ (runeAt l s.pos).2 := by
        by_cases ha : l[s.pos].toNat < 128
        · rw [runeAt_ascii hb ha]; exact Nat.le_refl _
        · exact (runeAt_high hb (by omega)).2
      refine go ?_
      refine J_again ⟨s.pos + (runeAt l s.pos).2, by omega, fun j b hj hjb => ?_⟩ (by show l.length - (s.pos + _) < l.length - s.pos; omega) ⟨rfl, rfl, trivial⟩ rfl rfl
      rcases Nat.lt_trichotomy j s.pos with h | rfl | h
      · exact s.ok j b h hjb
      · rw [hb] at hjb
        obtain rfl := Option.some.inj hjb
        exact hb1
      · obtain ⟨b', h1, h2⟩ := r2 (j - s.pos) (by omega) (by omega)
        rw [show s.pos + (j - s.pos) = j by omega, hjb] at h1
        obtain rfl := Option.some.inj h1
        refine ⟨fun e => ?_, fun e => ?_⟩
        · rw [e] at h2; exact absurd h2 (by decide)
        · rw [e] at h2; exact absurd h2 (by decide)
  · have hok : okB l = true := okB_iff.2 fun j b hjb => s.ok j b (by have := (List.getElem?_eq_some_iff.1 hjb).1; omega) hjb
    have e : nameB l = (!(l == []) && decide ((l.length : Int) ≤ 32) && !(l == [46]) && !(l == [46, 46])) := by unfold nameB; rw [hok]; rfl
    refine go ?_
    refine K_op rfl rfl (opr_next_end rfl rfl rfl hp) rfl ?_
    refine go ?_
    rw [e]
    exact J_done hT rfl rfl rfl
structure NJ (l : List UInt8) where
  pos : Nat
  h : pos ≤ l.length
  ok : ∀ (j : Nat) (b : UInt8), j < pos → l[j]? = some b → b ≠ 0 ∧ b ≠ 47
set_option maxHeartbeats 4000000 in
theorem rname_spec (l : List UInt8) (hl : l.length ≤ 140737488355328) : Con Tryz.prog 140 [.p (.str l)] [] (.p (.bool (nameB l))) [] [] := by
  refine con_of Tryz.func140 rfl (by kernel_rfl) rfl fun F w0 β0 => ?_
  refine K_tell rfl ?_
  refine go ?_
  refine J_loop (fun s : NJ l => [(0, .p (.str l)), (3, .p (.int .i64 (s.pos : Int)))]) (fun _ => []) (fun _ => []) (fun s => l.length - s.pos) ⟨0, by omega, fun j b h => by omega⟩ ⟨rfl, rfl, trivial⟩ rfl rfl (fun s => ?_)
  refine go ?_
  refine J_cond rfl (fun hp => ?_) (fun hp => ?_)
  · have hp : s.pos < l.length := by have := of_decide_eq_true hp; omega
    have hb : l[((s.pos : Nat) : Int).toNat]? = some l[s.pos] := List.getElem?_eq_getElem hp
    have hb' : l[s.pos]? = some l[s.pos] := List.getElem?_eq_getElem hp
    refine go ?_
    refine K_op rfl rfl (opr_byte hT rfl rfl rfl rfl (by omega) hb) rfl ?_
    refine go ?_
    refine K_opt rfl rfl rfl need2 (fun _ => opr_byte hT rfl rfl rfl rfl (by omega) hb) rfl ?_
    refine go ?_
    refine J_cond rfl (fun hc => ?_) (fun hc => ?_)
    · have e : nameB l = false := by
        have : okB l = false := by
          cases hk : okB l with
          | false => rfl
          | true =>
            obtain ⟨h1, h2⟩ := okB_iff.1 hk s.pos _ hb'
            simp only [Bool.or_eq_true, beq_iff_eq] at hc
            rcases hc with hc | hc
            · exact absurd (UInt8.toNat_inj.1 (show l[s.pos].toNat = (0 : UInt8).toNat by show _ = 0; omega)) h1
            · exact absurd (UInt8.toNat_inj.1 (show l[s.pos].toNat = (47 : UInt8).toNat by show _ = 47; omega)) h2
        unfold nameB; rw [this]; rfl
      rw [e]
      refine go ?_
      exact J_done hT rfl rfl rfl
    · simp only [Bool.or_eq_false_iff, beq_eq_false_iff_ne] at hc
      refine go ?_
      refine J_again ⟨s.pos + 1, by omega, fun j b hj hjb => ?_⟩ (by show l.length - (s.pos + 1) < l.length - s.pos; omega) ⟨rfl, congrArg (fun z => TV.p (.int .i64 z)) (by rw [IntWalk.i64_in _ (by omega)]; rfl), trivial⟩ rfl rfl
      rcases Nat.lt_or_eq_of_le (Nat.le_of_lt_succ hj) with h | rfl
      · exact s.ok j b h hjb
      · rw [hb'] at hjb
        obtain rfl := Option.some.inj hjb
        exact ⟨fun e => hc.1 (by rw [e]; rfl), fun e => hc.2 (by rw [e]; rfl)⟩
  · have hp : ¬ s.pos < l.length := by have := of_decide_eq_false hp; omega
    have hok : okB l = true := okB_iff.2 fun j b hjb => s.ok j b (by have := (List.getElem?_eq_some_iff.1 hjb).1; omega) hjb
    have e : nameB l = (decide ((l.length : Int) > 0) && decide ((l.length : Int) ≤ 32) && !(l == [46]) && !(l == [46, 46])) := by
      unfold nameB
      rw [hok]
      cases l with
      | nil => rfl
      | cons x r =>
        have : ((x :: r).length : Int) > 0 := by simp
        rw [decide_eq_true this]
        rfl
    refine go ?_
    rw [e]
    exact J_done hT rfl rfl rfl
end Go.Proofs.YtfnpelogfcnanaaGreatDoor

/- What keys are made of, in plain Lean. -/
namespace Go.Proofs.YtfnpelogfcnanaaGreatDoor
set_option maxRecDepth 20000
open Go.Awp
theorem b0_key (k n : Int) (r : List UInt8) (hk : 0 ≤ k ∧ k ≤ 255) : b0 (keyH k n ++ r) = k := by
  simp [b0, keyH]; omega
theorem gF_key (k n : Int) (r : List UInt8) (hn : 0 ≤ n ∧ n ≤ 4294967295) : gF (keyH k n ++ r) 1 = n := by
  unfold gF keyH
  rw [List.cons_append, List.drop_succ_cons, List.drop_zero, List.take_append_of_le_length (by simp [beB_len]), List.take_of_length_le (by simp [beB_len]), beV_be4 n hn]
theorem drop_key (k n : Int) (r : List UInt8) : (keyH k n ++ r).drop 5 = r := by
  rw [List.drop_append, List.drop_of_length_le (by rw [keyH_len]; exact Nat.le_refl _), keyH_len]; rfl
theorem key_inj {k n k' n' : Int} {r r' : List UInt8} (hk : 0 ≤ k ∧ k ≤ 255) (hk' : 0 ≤ k' ∧ k' ≤ 255) (hn : 0 ≤ n ∧ n ≤ 4294967295) (hn' : 0 ≤ n' ∧ n' ≤ 4294967295) (h : keyH k n ++ r = keyH k' n' ++ r') : k = k' ∧ n = n' ∧ r = r' := by
  refine ⟨?_, ?_, ?_⟩
  · rw [← b0_key k n r hk, h, b0_key k' n' r' hk']
  · rw [← gF_key k n r hn, h, gF_key k' n' r' hn']
  · rw [← drop_key k n r, h, drop_key k' n' r']
theorem beV_be2 (v : Int) (h : 0 ≤ v ∧ v ≤ 65535) : beV (beB 2 v) = v := by
  obtain ⟨x, rfl⟩ : ∃ x : Nat, v = x := ⟨v.toNat, by omega⟩
  rw [beV_beB, Nat.mod_eq_of_lt (by omega)]
theorem split_block (n i : Int) (hn : 0 ≤ n ∧ n ≤ 4294967295) (hi : 0 ≤ i ∧ i ≤ 65535) : splitK (keyH 68 n ++ beB 2 i) = (68, n, [], i) := by
  unfold splitK
  rw [if_neg (by rw [List.length_append, keyH_len]; omega), b0_key 68 n _ (by decide), drop_key, gF_key 68 n _ hn, if_neg (by simp), if_neg (by simp), if_pos ⟨rfl, by rw [beB_len]⟩, beV_be2 i hi]
theorem bl_append (p a b : List UInt8) : Op.bytesLess (p ++ a) (p ++ b) = Op.bytesLess a b := by
  induction p with
  | nil => rfl
  | cons x p ih => simp [Op.bytesLess, ih]
theorem bl_be2 (i j : Int) (hi : 0 ≤ i ∧ i ≤ 65535) (hj : 0 ≤ j ∧ j ≤ 65535) : Op.bytesLess (beB 2 i) (beB 2 j) = decide (i < j) := by
  have e : ∀ x : Int, 0 ≤ x ∧ x ≤ 65535 → beB 2 x = [UInt8.ofNat (x / 256).toNat, UInt8.ofNat (x % 256).toNat] := fun x hx => by
    simp only [beB]
    congr 3
    · have : x / 256 ^ 1 % 256 = x / 256 := by rw [Int.pow_one]; omega
      omega
    · simp
  rw [e i hi, e j hj]
  simp only [Op.bytesLess, Bool.and_false, Bool.or_false]
  rw [Bool.eq_iff_iff]
  simp only [Bool.or_eq_true, Bool.and_eq_true, decide_eq_true_eq, beq_iff_eq, UInt8.lt_iff_toNat_lt, ← UInt8.toNat_inj]
  simp
  omega
theorem bl_prefix {a k : List UInt8} (h : a <+: k) : Op.bytesLess k a = false := by
  obtain ⟨t, rfl⟩ := h
  have := bl_append a t []
  rw [List.append_nil] at this
  rw [this, bl_nil]
theorem inR_block (n : Int) (i : Int) (hi : 0 ≤ i ∧ i ≤ 65535) (k : List UInt8) : inR k (keyH 68 n ++ beB 2 i) (beh (keyH 68 n)) = (decide (keyH 68 n <+: k) && !Op.bytesLess k (keyH 68 n ++ beB 2 i)) := by
  have hb := beh_iff (beh_key 68 n (by decide)) k
  rw [Bool.eq_iff_iff]
  simp only [inR, Bool.and_eq_true, Bool.not_eq_true', decide_eq_true_eq]
  rw [← hb]
  constructor
  · rintro ⟨h1, h2⟩
    refine ⟨⟨?_, h2⟩, h1⟩
    cases h3 : Op.bytesLess k (keyH 68 n) with
    | false => rfl
    | true =>
      have : Op.bytesLess k (keyH 68 n ++ beB 2 i) = true := by
        cases h4 : Op.bytesLess (keyH 68 n) (keyH 68 n ++ beB 2 i) with
        | true => exact bl_trans h3 h4
        | false =>
          have := bl_total h4 (bl_prefix (List.prefix_append _ _))
          rwa [← this]
      rw [this] at h1; cases h1
  · rintro ⟨⟨_, h2⟩, h1⟩
    exact ⟨h1, h2⟩
end Go.Proofs.YtfnpelogfcnanaaGreatDoor

/- More rules of the walk: what an operation makes, as a value that stays. No program is named here. -/
namespace Go.Awp
open Go.RowKit
section
variable {w : World} {β : Hd → Nat} {H L : List AObj} {F : Nat → Prop}
end
section
variable {P : Program} {T : Tab} {env : Env} {H L : List AObj} {o : Oper} {x : TV}
/-- A variable that nobody will write: a struct's, or an array's. -/
theorem opr_boxP {t : TypeId} {y : Operand} {cs : List TV} {ys : List AV} (ho : o.op = .box t y) (hc : tcells (evA env y) = some cs) (hu : unpL cs = some ys) : OpR P o env H L (.p (.pp ys)) H L :=
  opr_alloc fun F w β a hS he => by
    have hv := tcells_ok (evA_ok he y) hc
    obtain ⟨u1, u2⟩ := unpL_ok (w := w) (β := β) (G := ⟨H, L, F⟩) cs hu
    refine ⟨.pointer (some ⟨w.heap.size, 0, none⟩), .cells (a.eval y).cells t, by simp [execOp, ho, Instr.box, newVar, newRow], fun hst => ?_⟩
    have hblk := alloc_new w (.cells (a.eval y).cells t)
    have hlen : (a.eval y).cells.toList.length = ys.length := by rw [hv.1, u1]
    refine .p (.pp ys ⟨w.heap.size, 0, none⟩ (fun i => (a.eval y).cells.getD i undef) (free_new hS) (by simp) (fun i hi => ?_) fun i x hx => ?_)
    · rw [Addr.add_lit, cell_of_row _ _ _ _ _ _ hblk]
      have hlt : i < (a.eval y).cells.size := by
        have : (a.eval y).cells.toList.length = (a.eval y).cells.size := by simp
        omega
      simp [Array.getD_eq_getD_getElem?, hlt]
    · obtain ⟨z, hz, hzr⟩ := u2 i x hx
      have hlt : i < (a.eval y).cells.toList.length := by rw [hlen]; exact (List.getElem?_eq_some_iff.1 hx).1
      have := hzr _ (hv.2 i z _ hz (List.getElem?_eq_getElem hlt))
      have e : (a.eval y).cells.getD i undef = (a.eval y).cells.toList[i] := by
        simp only [Array.length_toList] at hlt
        simp [Array.getD_eq_getD_getElem?, hlt]
      rw [e]
      exact this.mono hst.size hst.frame
end
/-- What reads as x reads as y, too. -/
def AVLe (x y : AV) : Prop := ∀ w N v, RepA w N x v → RepA w N y v
theorem AVLe.refl (x : AV) : AVLe x x := fun _ _ _ h => h
theorem cell_le {x : AV} (hc : cl x = true) : AVLe x (.cell x) := fun _ _ v h => .cell x v (cl_ok h hc) h
inductive AVLes : List AV → List AV → Prop
  | nil : AVLes [] []
  | cons {x y : AV} {xs ys : List AV} (h : AVLe x y) (r : AVLes xs ys) : AVLes (x :: xs) (y :: ys)
theorem AVLes.len {xs ys : List AV} (h : AVLes xs ys) : ys.length = xs.length := by
  induction h with
  | nil => rfl
  | cons _ _ ih => simp [ih]
theorem AVLes.get {xs ys : List AV} (h : AVLes xs ys) : ∀ {i : Nat} {y : AV}, ys[i]? = some y → ∃ x, xs[i]? = some x ∧ AVLe x y := by
  induction h with
  | nil => intro i y h; simp at h
  | cons h _ ih =>
    intro i y hy
    cases i with
    | zero => simp at hy; subst hy; exact ⟨_, rfl, h⟩
    | succ i => simpa using ih (by simpa using hy)
theorem pp_le {xs ys : List AV} (h : AVLes xs ys) : AVLe (.pp xs) (.pp ys) := fun w N v hr => by
  cases hr with | pp _ a vs hN hb hc hr =>
  refine .pp ys a vs hN hb (fun i hi => hc i (by rw [h.len] at hi; exact hi)) fun i y hy => ?_
  obtain ⟨x, hx, hxy⟩ := h.get hy
  exact hxy _ _ _ (hr i x hx)
section
variable {Γ : Ctx} {env : Env} {H L : List AObj} {Φ : Act → World → Prop}
theorem J_le (d : Nat) {x : AV} (y : AV) (hx : lk env d = .p x) (hc : AVLe x y) (k : J Γ ((d, .p y) :: env) H L Φ) : J Γ env H L Φ := fun a w β s =>
  k a w β ⟨s.sim, s.step, fun t => by
    rw [lk_cons]
    split
    · rename_i e
      have := s.env d
      rw [hx] at this
      rw [e]
      cases this with | p h => exact .p (hc _ _ _ h)
    · exact s.env t, s.size, s.defers⟩
end
/-! ### Calls whose answer is told by equations; what a call gathers -/
section
variable {P : Program} {Γ : Ctx} {env env' : Env} {H L : List AObj} {Q : Exit → Act → World → Prop} {ops : Array Oper} {rest : List Oper} {o : Oper}
theorem tellT_self (x : TV) : tellT x = some x := by unfold tellT; rw [frcU_eq]
theorem tellM_self (l : List AObj) : tellM l = some l := by unfold tellM; rw [frcM_eq]
theorem opr_callE {fo : Operand} {os : List Operand} {ts : Array TypeId} {f : FuncId} {caps args : List TV} {r x : TV} {news L' : List AObj}
    (ho : o.op = .call { callee := .value fo, args := os.toArray, argTypes := ts }) (hf : evA env fo = .fn f caps) (sp : Con P f args [] r [] news) (ha : TV.ren.renL [] 0 0 args = unpOr (evL env os ++ caps)) (hx : TV.clo.cloL 0 args = true)
    (h1 : r.ren [] L.length 0 = x) (h3 : L ++ renM [] L.length 0 news = L') : OpR P o env H L x H L' :=
  opr_callP ho hf sp ha hx (by rw [h1]; exact tellT_self _) (by rw [h3]; exact tellM_self _)
theorem K_opM {x : TV} {H' L' : List AObj} (hg : o.guard = none) (hd : dstOk Γ.N o.dst = true) (h : OpR P o env H L x H' L') (he : putM env o.dst x = some env') (k : J Γ env' H' L' (wpList P ops Q rest)) : J Γ env H L (wpList P ops Q (o :: rest)) :=
  J_op hg hd h (by rw [putM_eq he]; exact k)
theorem opr_mv {y : Operand} (x : TV) (ho : o.op = .move y ∨ o.op = .assign y) (he : evA env y = x) : OpR P o env H L x H L := by
  subst he
  exact opr_move ho
theorem accT_ren (n g h : Nat) (d : AV) (acc : List AV) : (accT h d acc).ren [] n g = accT (n + g + h) d acc := by cases acc <;> rfl
theorem accL_ren (n g e sz : Nat) (acc : List AV) : renM [] n g (accL e sz acc) = accL e sz acc := by cases acc <;> rfl
theorem accV_rd {d : AV} {acc : List AV} (hd : d = .nils ∨ d = .cz) : Rd H L (.p (accV d acc)) acc := by
  cases acc with
  | nil => exact hd.elim (fun e => by subst e; exact .nils) fun e => by subst e; exact .cz
  | cons r rs => exact .ps _
theorem accV_str {d : AV} {acc : List AV} (hd : d = .nils ∨ d = .cz) : false = true ↔ ∃ l, TV.p (accV d acc) = .p (.str l) := by
  cases acc with
  | nil => rcases hd with rfl | rfl <;> simp [accV]
  | cons r rs => simp [accV]
/-- What a callee gathered, as a value that stays. -/
theorem Con.frzAcc {f : FuncId} {args : List TV} {e sz : Nat} {d : AV} {acc : List AV} (h : Con P f args H (accT 0 d acc) H (accL e sz acc)) : Con P f args H (.p (accV d acc)) H [] := by
  cases acc with
  | nil => exact h
  | cons r rs => exact Con.freeze h rfl
end
/-! ### Drawn regions, values told out -/
def snocD (l : List TV) (x : TV) : Option (List TV) := frcD x fun x' => tellL (l ++ [x']) some
theorem snocD_eq {l l' : List TV} {x : TV} (h : snocD l x = some l') : snocN l x = some l' := by
  unfold snocD at h
  rw [frcD_eq] at h
  exact h
section
variable {P : Program} {ops : List Oper} {env0 : Env} {H : List AObj} {Ls : List (List AObj)} {ss : List Nat} {xs : List TV}
theorem T_opD {K : List TV → Prop} {o : Oper} {rest : List Oper} {i k : Nat} {x : TV} {L : List AObj} (hg : o.guard = none) (hp : posn ss 0 i = none) (hk : loK o ss 0 0 = k) (hk2 : Nat.beq (hiK ops i ss 0 - k) 0 = true) (hL : Ls.getD k [] = L)
    (h : OpR P o (RdE ops env0 xs o) H L x H L) {xs' : List TV} (hxs : snocD xs x = some xs') (kk : Tele P ops env0 (fun _ => H) Ls ss K rest (i + 1) xs') : Tele P ops env0 (fun _ => H) Ls ss K (o :: rest) i xs :=
  T_op hg hp hk hk2 hL h (snocD_eq hxs) kk
theorem T_yesD {K : List TV → Prop} {o : Oper} {rest : List Oper} {i k g : Nat} {b : Bool} {x : TV} {L : List AObj} (hg : o.guard = some (g, b)) (hb : gA ops.toArray (RdE ops env0 xs o) g = some b) (hp : posn ss 0 i = none) (hk : loK o ss 0 0 = k)
    (hk2 : Nat.beq (hiK ops i ss 0 - k) 0 = true) (hL : Ls.getD k [] = L) (h : OpR P o (RdE ops env0 xs o) H L x H L) {xs' : List TV} (hxs : snocD xs x = some xs') (kk : Tele P ops env0 (fun _ => H) Ls ss K rest (i + 1) xs') : Tele P ops env0 (fun _ => H) Ls ss K (o :: rest) i xs :=
  T_yes hg hb hp hk hk2 hL h (snocD_eq hxs) kk
theorem T_op2D {K : List TV → Prop} {o : Oper} {rest : List Oper} {i k : Nat} {x : TV} {L L2 : List AObj} (hg : o.guard = none) (hp : posn ss 0 i = none) (hk : loK o ss 0 0 = k) (hk2 : Nat.beq (hiK ops i ss 0 - k) 1 = true) (hL : Ls.getD k [] = L) (hL2 : Ls.getD (k + 1) [] = L2)
    (h : OpR P o (RdE ops env0 xs o) H L x H L) (h2 : OpR P o (RdE ops env0 xs o) H L2 x H L2) {xs' : List TV} (hxs : snocD xs x = some xs') (kk : Tele P ops env0 (fun _ => H) Ls ss K rest (i + 1) xs') : Tele P ops env0 (fun _ => H) Ls ss K (o :: rest) i xs :=
  T_op2 hg hp hk hk2 hL hL2 h h2 (snocD_eq hxs) kk
theorem T_gate {K : List TV → Prop} {d : Option Nat} {op : Op} {t : TypeId} {pos : String} {af : Array Edge} {rest : List Oper} {i : Nat} (h : Tele P ops env0 (fun _ => H) Ls ss K ({ dst := d, op := op, type := t, pos := pos, after := af, guard := none } :: rest) i xs) : Tele P ops env0 (fun _ => H) Ls ss K ({ dst := d, op := op, type := t, pos := pos, after := af, guard := none } :: rest) i xs := h
theorem T_gateG {K : List TV → Prop} {d : Option Nat} {op : Op} {t : TypeId} {pos : String} {af : Array Edge} {g : Nat × Bool} {rest : List Oper} {i : Nat} (h : Tele P ops env0 (fun _ => H) Ls ss K ({ dst := d, op := op, type := t, pos := pos, after := af, guard := some g } :: rest) i xs) : Tele P ops env0 (fun _ => H) Ls ss K ({ dst := d, op := op, type := t, pos := pos, after := af, guard := some g } :: rest) i xs := h
end
/-- A drawn region, as far as the environment tells. -/
theorem gd {φ ψ : Prop} (k : ψ) (h : ψ → φ := by
  intro k
  repeat (first
    | with_reducible refine T_nil ?_
    | ((with_reducible refine T_gateG ?_); first | refine T_no rfl rfl rfl rfl ?_ | refine T_yesD rfl rfl rfl rfl rfl rfl (stepN_ok hT rfl) rfl ?_ | refine T_yesD rfl rfl rfl rfl rfl rfl (stepW_ok hT rfl) rfl ?_ | refine T_yesD rfl rfl rfl rfl rfl rfl (stepG_ok hT rfl) rfl ?_ | refine T_yesD rfl rfl rfl rfl rfl rfl (stepA_ok hT rfl) rfl ?_ | refine T_yesD rfl rfl rfl rfl rfl rfl (opr_boxP rfl rfl rfl) rfl ?_)
    | ((with_reducible refine T_gate ?_); first | refine T_opD rfl rfl rfl rfl rfl (stepN_ok hT rfl) rfl ?_ | refine T_opD rfl rfl rfl rfl rfl (stepW_ok hT rfl) rfl ?_ | refine T_opD rfl rfl rfl rfl rfl (stepG_ok hT rfl) rfl ?_ | refine T_opD rfl rfl rfl rfl rfl (stepA_ok hT rfl) rfl ?_ | refine T_opD rfl rfl rfl rfl rfl (opr_boxP rfl rfl rfl) rfl ?_))
  exact k) : φ := h k
/-- One step of a drawn region. -/
theorem gd1 {φ ψ : Prop} (k : ψ) (h : ψ → φ := by
  intro k
  (first
    | with_reducible refine T_nil ?_
    | ((with_reducible refine T_gateG ?_); first | refine T_no rfl rfl rfl rfl ?_ | refine T_yesD rfl rfl rfl rfl rfl rfl (stepN_ok hT rfl) rfl ?_ | refine T_yesD rfl rfl rfl rfl rfl rfl (stepW_ok hT rfl) rfl ?_ | refine T_yesD rfl rfl rfl rfl rfl rfl (stepG_ok hT rfl) rfl ?_ | refine T_yesD rfl rfl rfl rfl rfl rfl (stepA_ok hT rfl) rfl ?_ | refine T_yesD rfl rfl rfl rfl rfl rfl (opr_boxP rfl rfl rfl) rfl ?_)
    | ((with_reducible refine T_gate ?_); first | refine T_opD rfl rfl rfl rfl rfl (stepN_ok hT rfl) rfl ?_ | refine T_opD rfl rfl rfl rfl rfl (stepW_ok hT rfl) rfl ?_ | refine T_opD rfl rfl rfl rfl rfl (stepG_ok hT rfl) rfl ?_ | refine T_opD rfl rfl rfl rfl rfl (stepA_ok hT rfl) rfl ?_ | refine T_opD rfl rfl rfl rfl rfl (opr_boxP rfl rfl rfl) rfl ?_))
  exact k) : φ := h k
/-- Where one operation more may have come between. -/
theorem gd2 {φ ψ : Prop} (k : ψ) (h : ψ → φ := by
  intro k
  repeat (first
    | ((with_reducible refine T_gate ?_); first | refine T_op2D rfl rfl rfl rfl rfl rfl (stepN_ok hT rfl) (stepN_ok hT rfl) rfl ?_ | refine T_op2D rfl rfl rfl rfl rfl rfl (stepW_ok hT rfl) (stepW_ok hT rfl) rfl ?_ | refine T_op2D rfl rfl rfl rfl rfl rfl (stepA_ok hT rfl) (stepA_ok hT rfl) rfl ?_))
  exact k) : φ := h k
end Go.Awp

/- Trees: what they are, and what is made of them, in plain Lean. -/
namespace Go.Proofs.YtfnpelogfcnanaaGreatDoor
set_option maxRecDepth 20000
open Go.Awp
/-- A version of a tree. -/
inductive Tr where
  | nil
  | node (k v : List UInt8) (l r : Tr)
  deriving Inhabited
namespace Tr
def size : Tr → Nat
  | nil => 0
  | node _ _ l r => 1 + l.size + r.size
def high : Tr → Nat
  | nil => 0
  | node _ _ l r => 1 + max l.high r.high
theorem high_le : ∀ (t : Tr), t.high ≤ t.size
  | nil => Nat.le_refl _
  | node _ _ l r => by have := high_le l; have := high_le r; simp only [high, size]; omega
def av : Tr → AV
  | nil => .nilp
  | node k v l r => .pp [.str k, .str v, .cell l.av, .cell r.av, .int .i64 ((1 + l.size + r.size : Nat) : Int), .int .i64 ((1 + max l.high r.high : Nat) : Int)]
/-- The tree as a value that is handed on. -/
abbrev W (t : Tr) : TV := .p (.cell t.av)
def rotR : Tr → Tr
  | node k v (node k2 v2 a b) c => node k2 v2 a (node k v b c)
  | t => t
def rotL : Tr → Tr
  | node k v a (node k2 v2 b c) => node k2 v2 (node k v a b) c
  | t => t
def lean : Tr → Int
  | nil => 0
  | node _ _ l r => (l.high : Int) - (r.high : Int)
def join (k v : List UInt8) (l r : Tr) : Tr :=
  if (node k v l r).lean > 1 then rotR (if l.lean < 0 then node k v (rotL l) r else node k v l r)
  else if (node k v l r).lean < -1 then rotL (if r.lean > 0 then node k v l (rotR r) else node k v l r)
  else node k v l r
theorem rotR_size (t : Tr) : t.rotR.size = t.size := by
  unfold rotR; split
  · simp only [size]; omega
  · rfl
theorem rotL_size (t : Tr) : t.rotL.size = t.size := by
  unfold rotL; split
  · simp only [size]; omega
  · rfl
theorem join_size (k v : List UInt8) (l r : Tr) : (join k v l r).size = 1 + l.size + r.size := by
  unfold join
  split
  · rw [rotR_size]; split <;> simp only [size, rotL_size]
  · split
    · rw [rotL_size]; split <;> simp only [size, rotR_size]
    · rfl
end Tr
end Go.Proofs.YtfnpelogfcnanaaGreatDoor

/- tree: Len, High, with, turnRight, turnLeft, lean, join. -/
-- @D
namespace Go.Proofs.YtfnpelogfcnanaaGreatDoor
set_option maxRecDepth 20000
open Go.Awp Tr
theorem tnew_spec : Con Tryz.prog 12 [] [] (W .nil) [] [] := by
  refine con_of Tryz.func12 rfl (by kernel_rfl) rfl fun F w0 β0 => ?_
  refine K_tell rfl ?_
  refine go ?_
  refine J_wrap 0 rfl rfl ?_
  exact J_done hT rfl rfl rfl
theorem tlen_spec (t : Tr) : Con Tryz.prog 113 [W t] [] (.p (.int .i64 (t.size : Int))) [] [] := by
  cases t with
  | nil =>
    refine con_of Tryz.func113 rfl (by kernel_rfl) rfl fun F w0 β0 => ?_
    refine K_tell rfl ?_
    refine go ?_
    exact J_done hT rfl rfl rfl
  | node k v l r =>
    refine con_of Tryz.func113 rfl (by kernel_rfl) rfl fun F w0 β0 => ?_
    refine K_tell rfl ?_
    refine go ?_
    exact J_done hT rfl rfl rfl
theorem thigh_spec (t : Tr) : Con Tryz.prog 141 [W t] [] (.p (.int .i64 (t.high : Int))) [] [] := by
  cases t with
  | nil =>
    refine con_of Tryz.func141 rfl (by kernel_rfl) rfl fun F w0 β0 => ?_
    refine K_tell rfl ?_
    refine go ?_
    exact J_done hT rfl rfl rfl
  | node k v l r =>
    refine con_of Tryz.func141 rfl (by kernel_rfl) rfl fun F w0 β0 => ?_
    refine K_tell rfl ?_
    refine go ?_
    exact J_done hT rfl rfl rfl
theorem tmax (a b : Nat) : mmA .max (a : Int) (b : Int) = ((max a b : Nat) : Int) := by unfold mmA; simp only []; split <;> omega
def big40 : Nat := 1099511627776
set_option maxHeartbeats 4000000 in
theorem twith_spec (k v : List UInt8) (l0 r0 l r : Tr) (hl : l.size ≤ big40) (hr : r.size ≤ big40) : Con Tryz.prog 123 [W (node k v l0 r0), W l, W r] [] (W (node k v l r)) [] [] := by
  unfold big40 at hl hr
  have h1 := high_le l
  have h2 := high_le r
  have e22 : IntKind.i64.wrap (IntKind.i64.wrap (1 + (l.size : Int)) + (r.size : Int)) = ((1 + l.size + r.size : Nat) : Int) := by rw [IntWalk.i64_in (1 + _) (by omega), IntWalk.i64_in _ (by omega)]; omega
  have e28 : IntKind.i64.wrap (1 + mmA .max (l.high : Int) (r.high : Int)) = ((1 + max l.high r.high : Nat) : Int) := by rw [tmax, IntWalk.i64_in _ (by omega)]; omega
  have ex : AV.pp [.str k, .str v, .cell l.av, .cell r.av, .int .i64 (IntKind.i64.wrap (IntKind.i64.wrap (1 + (l.size : Int)) + (r.size : Int))), .int .i64 (IntKind.i64.wrap (1 + mmA .max (l.high : Int) (r.high : Int)))] = (node k v l r).av := by rw [e22, e28]; rfl
  have c1 := tlen_spec l
  have c2 := tlen_spec r
  have c3 := thigh_spec l
  have c4 := thigh_spec r
  refine con_of Tryz.func123 rfl (by kernel_rfl) rfl fun F w0 β0 => ?_
  refine K_tell rfl ?_
  refine go ?_
  refine J_draw [[]] [] (by kernel_rfl) (by kernel_rfl) rfl ?_
  refine gd ?_
  refine T_opD rfl rfl rfl rfl rfl (opr_call0P rfl rfl (c1) rfl rfl rfl) rfl ?_
  refine gd ?_
  refine T_opD rfl rfl rfl rfl rfl (opr_call0P rfl rfl (c2) rfl rfl rfl) rfl ?_
  refine gd ?_
  refine T_opD rfl rfl rfl rfl rfl (opr_call0P rfl rfl (c3) rfl rfl rfl) rfl ?_
  refine gd ?_
  refine T_opD rfl rfl rfl rfl rfl (opr_call0P rfl rfl (c4) rfl rfl rfl) rfl ?_
  refine gd ?_
  refine J_then ?_
  refine K_tell rfl ?_
  refine go ?_
  refine J_val 6 _ rfl (congrArg TV.p ex) ?_
  refine J_wrap 6 rfl rfl ?_
  exact J_done hT rfl rfl rfl
theorem tlean_spec (k v : List UInt8) (l r : Tr) (hl : l.size ≤ big40) (hr : r.size ≤ big40) : Con Tryz.prog 124 [W (node k v l r)] [] (.p (.int .i64 (node k v l r).lean)) [] [] := by
  unfold big40 at hl hr
  have h1 := high_le l
  have h2 := high_le r
  have c3 := thigh_spec l
  have c4 := thigh_spec r
  have e : IntKind.i64.wrap ((l.high : Int) - (r.high : Int)) = (l.high : Int) - (r.high : Int) := IntWalk.i64_in _ (by omega)
  refine con_of Tryz.func124 rfl (by kernel_rfl) rfl fun F w0 β0 => ?_
  refine K_tell rfl ?_
  refine go ?_
  refine J_draw [[]] [] (by kernel_rfl) (by kernel_rfl) rfl ?_
  refine gd ?_
  refine T_opD rfl rfl rfl rfl rfl (opr_call0P rfl rfl (c3) rfl rfl rfl) rfl ?_
  refine gd ?_
  refine T_opD rfl rfl rfl rfl rfl (opr_call0P rfl rfl (c4) rfl rfl rfl) rfl ?_
  refine gd ?_
  refine J_then ?_
  refine K_tell rfl ?_
  refine go ?_
  refine J_val 2 _ rfl (congrArg (fun z => TV.p (.int .i64 z)) e) ?_
  exact J_done hT rfl rfl rfl
set_option maxHeartbeats 4000000 in
theorem trotL_spec (k v : List UInt8) (a : Tr) (k2 v2 : List UInt8) (b c : Tr) (h : (node k v a (node k2 v2 b c)).size ≤ big40) : Con Tryz.prog 125 [W (node k v a (node k2 v2 b c))] [] (W (node k2 v2 (node k v a b) c)) [] [] := by
  simp only [Tr.size] at h
  have c1 := twith_spec k v a (node k2 v2 b c) a b (by omega) (by omega)
  have c2 := twith_spec k2 v2 b c (node k v a b) c (by simp only [Tr.size]; omega) (by omega)
  refine con_of Tryz.func125 rfl (by kernel_rfl) rfl fun F w0 β0 => ?_
  refine K_tell rfl ?_
  refine go ?_
  refine J_draw [[]] [] (by kernel_rfl) (by kernel_rfl) rfl ?_
  refine gd ?_
  refine T_opD rfl rfl rfl rfl rfl (opr_call0P rfl rfl (c1) rfl rfl rfl) rfl ?_
  refine gd ?_
  refine T_opD rfl rfl rfl rfl rfl (opr_call0P rfl rfl (c2) rfl rfl rfl) rfl ?_
  refine gd ?_
  refine J_then ?_
  refine K_tell rfl ?_
  refine go ?_
  exact J_done hT rfl rfl rfl
set_option maxHeartbeats 4000000 in
theorem trotR_spec (k v : List UInt8) (k2 v2 : List UInt8) (a b c : Tr) (h : (node k v (node k2 v2 a b) c).size ≤ big40) : Con Tryz.prog 126 [W (node k v (node k2 v2 a b) c)] [] (W (node k2 v2 a (node k v b c))) [] [] := by
  simp only [Tr.size] at h
  have c1 := twith_spec k v (node k2 v2 a b) c b c (by omega) (by omega)
  have c2 := twith_spec k2 v2 a b a (node k v b c) (by omega) (by simp only [Tr.size]; omega)
  refine con_of Tryz.func126 rfl (by kernel_rfl) rfl fun F w0 β0 => ?_
  refine K_tell rfl ?_
  refine go ?_
  refine J_draw [[]] [] (by kernel_rfl) (by kernel_rfl) rfl ?_
  refine gd ?_
  refine T_opD rfl rfl rfl rfl rfl (opr_call0P rfl rfl (c1) rfl rfl rfl) rfl ?_
  refine gd ?_
  refine T_opD rfl rfl rfl rfl rfl (opr_call0P rfl rfl (c2) rfl rfl rfl) rfl ?_
  refine gd ?_
  refine J_then ?_
  refine K_tell rfl ?_
  refine go ?_
  exact J_done hT rfl rfl rfl
end Go.Proofs.YtfnpelogfcnanaaGreatDoor

/- tree: join, Get. -/
-- @D
namespace Go.Proofs.YtfnpelogfcnanaaGreatDoor
set_option maxRecDepth 20000
open Go.Awp Tr
set_option maxHeartbeats 4000000 in
theorem tjoin_spec (k v : List UInt8) (l0 r0 l r : Tr) (h : 1 + l.size + r.size ≤ big40) : Con Tryz.prog 97 [W (node k v l0 r0), W l, W r] [] (W (Tr.join k v l r)) [] [] := by
  have c1 := twith_spec k v l0 r0 l r (by omega) (by omega)
  have c2 := tlean_spec k v l r (by omega) (by omega)
  by_cases h1 : (node k v l r).lean > 1
  · match l, h1 with
    | nil, h1 => simp [Tr.lean, Tr.high] at h1; omega
    | node k2 v2 a b, h1 =>
    simp only [Tr.size] at h
    have c3 := tlean_spec k2 v2 a b (by omega) (by omega)
    by_cases h2 : (node k2 v2 a b).lean < 0
    · match b, h2 with
      | nil, h2 => simp [Tr.lean, Tr.high] at h2; omega
      | node k3 v3 b1 b2, h2 =>
      have e : Tr.join k v (node k2 v2 a (node k3 v3 b1 b2)) r = node k3 v3 (node k2 v2 a b1) (node k v b2 r) := by
        unfold Tr.join; rw [if_pos h1, if_pos h2]; rfl
      simp only [Tr.size] at h
      have c4 := trotL_spec k2 v2 a k3 v3 b1 b2 (by simp only [Tr.size]; omega)
      have c5 := twith_spec k v l0 r0 (node k3 v3 (node k2 v2 a b1) b2) r (by simp only [Tr.size]; omega) (by omega)
      have c6 := trotR_spec k v k3 v3 (node k2 v2 a b1) b2 r (by simp only [Tr.size]; omega)
      rw [e]
      refine con_of Tryz.func97 rfl (by kernel_rfl) rfl fun F w0 β0 => ?_
      refine K_tell rfl ?_
      refine go ?_
      refine K_op rfl rfl (opr_callP rfl rfl (c1) rfl rfl rfl rfl) rfl ?_
      refine go ?_
      refine K_op rfl rfl (opr_callP rfl rfl (c2) rfl rfl rfl rfl) rfl ?_
      refine go ?_
      refine K_condT rfl (decide_eq_true h1) ?_
      refine go ?_
      refine K_op rfl rfl (opr_callP rfl rfl (c3) rfl rfl rfl rfl) rfl ?_
      refine go ?_
      refine K_condT rfl (decide_eq_true h2) ?_
      refine go ?_
      refine K_op rfl rfl (opr_callP rfl rfl (c4) rfl rfl rfl rfl) rfl ?_
      refine go ?_
      refine K_op rfl rfl (opr_callP rfl rfl (c5) rfl rfl rfl rfl) rfl ?_
      refine go ?_
      refine K_op rfl rfl (opr_callP rfl rfl (c6) rfl rfl rfl rfl) rfl ?_
      refine go ?_
      exact J_done hT rfl rfl rfl
    · have e : Tr.join k v (node k2 v2 a b) r = node k2 v2 a (node k v b r) := by
        unfold Tr.join; rw [if_pos h1, if_neg h2]; rfl
      have c6 := trotR_spec k v k2 v2 a b r (by simp only [Tr.size]; omega)
      rw [e]
      refine con_of Tryz.func97 rfl (by kernel_rfl) rfl fun F w0 β0 => ?_
      refine K_tell rfl ?_
      refine go ?_
      refine K_op rfl rfl (opr_callP rfl rfl (c1) rfl rfl rfl rfl) rfl ?_
      refine go ?_
      refine K_op rfl rfl (opr_callP rfl rfl (c2) rfl rfl rfl rfl) rfl ?_
      refine go ?_
      refine K_condT rfl (decide_eq_true h1) ?_
      refine go ?_
      refine K_op rfl rfl (opr_callP rfl rfl (c3) rfl rfl rfl rfl) rfl ?_
      refine go ?_
      refine K_condF rfl (decide_eq_false h2) ?_
      refine go ?_
      refine K_op rfl rfl (opr_callP rfl rfl (c6) rfl rfl rfl rfl) rfl ?_
      refine go ?_
      exact J_done hT rfl rfl rfl
  by_cases h3 : (node k v l r).lean < -1
  · match r, h1, h3 with
    | nil, h1, h3 => simp [Tr.lean, Tr.high] at h3; omega
    | node k2 v2 a b, h1, h3 =>
    simp only [Tr.size] at h
    have c3 := tlean_spec k2 v2 a b (by omega) (by omega)
    by_cases h2 : (node k2 v2 a b).lean > 0
    · match a, h2 with
      | nil, h2 => simp [Tr.lean, Tr.high] at h2; omega
      | node k3 v3 b1 b2, h2 =>
      have e : Tr.join k v l (node k2 v2 (node k3 v3 b1 b2) b) = node k3 v3 (node k v l b1) (node k2 v2 b2 b) := by
        unfold Tr.join; rw [if_neg h1, if_pos h3, if_pos h2]; rfl
      simp only [Tr.size] at h
      have c4 := trotR_spec k2 v2 k3 v3 b1 b2 b (by simp only [Tr.size]; omega)
      have c5 := twith_spec k v l0 r0 l (node k3 v3 b1 (node k2 v2 b2 b)) (by omega) (by simp only [Tr.size]; omega)
      have c6 := trotL_spec k v l k3 v3 b1 (node k2 v2 b2 b) (by simp only [Tr.size]; omega)
      rw [e]
      refine con_of Tryz.func97 rfl (by kernel_rfl) rfl fun F w0 β0 => ?_
      refine K_tell rfl ?_
      refine go ?_
      refine K_op rfl rfl (opr_callP rfl rfl (c1) rfl rfl rfl rfl) rfl ?_
      refine go ?_
      refine K_op rfl rfl (opr_callP rfl rfl (c2) rfl rfl rfl rfl) rfl ?_
      refine go ?_
      refine K_condF rfl (decide_eq_false h1) ?_
      refine go ?_
      refine K_condT rfl (decide_eq_true h3) ?_
      refine go ?_
      refine K_op rfl rfl (opr_callP rfl rfl (c3) rfl rfl rfl rfl) rfl ?_
      refine go ?_
      refine K_condT rfl (decide_eq_true h2) ?_
      refine go ?_
      refine K_op rfl rfl (opr_callP rfl rfl (c4) rfl rfl rfl rfl) rfl ?_
      refine go ?_
      refine K_op rfl rfl (opr_callP rfl rfl (c5) rfl rfl rfl rfl) rfl ?_
      refine go ?_
      refine K_op rfl rfl (opr_callP rfl rfl (c6) rfl rfl rfl rfl) rfl ?_
      refine go ?_
      exact J_done hT rfl rfl rfl
    · have e : Tr.join k v l (node k2 v2 a b) = node k2 v2 (node k v l a) b := by
        unfold Tr.join; rw [if_neg h1, if_pos h3, if_neg h2]; rfl
      have c6 := trotL_spec k v l k2 v2 a b (by simp only [Tr.size]; omega)
      rw [e]
      refine con_of Tryz.func97 rfl (by kernel_rfl) rfl fun F w0 β0 => ?_
      refine K_tell rfl ?_
      refine go ?_
      refine K_op rfl rfl (opr_callP rfl rfl (c1) rfl rfl rfl rfl) rfl ?_
      refine go ?_
      refine K_op rfl rfl (opr_callP rfl rfl (c2) rfl rfl rfl rfl) rfl ?_
      refine go ?_
      refine K_condF rfl (decide_eq_false h1) ?_
      refine go ?_
      refine K_condT rfl (decide_eq_true h3) ?_
      refine go ?_
      refine K_op rfl rfl (opr_callP rfl rfl (c3) rfl rfl rfl rfl) rfl ?_
      refine go ?_
      refine K_condF rfl (decide_eq_false h2) ?_
      refine go ?_
      refine K_op rfl rfl (opr_callP rfl rfl (c6) rfl rfl rfl rfl) rfl ?_
      refine go ?_
      exact J_done hT rfl rfl rfl
  · have e : Tr.join k v l r = node k v l r := by
      unfold Tr.join; rw [if_neg h1, if_neg h3]
    rw [e]
    refine con_of Tryz.func97 rfl (by kernel_rfl) rfl fun F w0 β0 => ?_
    refine K_tell rfl ?_
    refine go ?_
    refine K_op rfl rfl (opr_callP rfl rfl (c1) rfl rfl rfl rfl) rfl ?_
    refine go ?_
    refine K_op rfl rfl (opr_callP rfl rfl (c2) rfl rfl rfl rfl) rfl ?_
    refine go ?_
    refine K_condF rfl (decide_eq_false h1) ?_
    refine go ?_
    refine K_condF rfl (decide_eq_false h3) ?_
    refine go ?_
    exact J_done hT rfl rfl rfl
end Go.Proofs.YtfnpelogfcnanaaGreatDoor
