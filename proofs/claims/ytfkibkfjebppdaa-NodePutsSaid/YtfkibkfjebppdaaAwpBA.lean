/- Operations behind a guard that is not decided: what they yield holds where the guard does. No program is named here. -/
import Derived.Test.YtfkibkfjebppdaaAwpY
import Derived.Test.YtfkibkfjebppdaaAwpV
namespace Go.Awp
open Go.RowKit

def strip : TV → TV
  | .opt _ x => x
  | x => x
def strE (env : Env) : List Nat → Env
  | [] => []
  | t :: r => (t, strip (lk env t)) :: strE env r
def needE (env : Env) : List Nat → List Bool
  | [] => []
  | t :: r => match lk env t with
    | .opt g _ => g :: needE env r
    | _ => needE env r
def NeedAll (c : Bool) : List Bool → Prop
  | [] => True
  | g :: r => (c = true → g = true) ∧ NeedAll c r
def grd (c : Bool) : Bool → Bool
  | true => c
  | false => !c
def gB (ops : Array Oper) (env : Env) (j : Nat) (b : Bool) : Option Bool :=
  match (ops[j]?).bind (·.dst) with
  | some d => match lk env d with
    | .p (.bool c) => some (grd c b)
    | .opt g (.p (.bool c)) => some (g && grd c b)
    | _ => none
  | none => none
theorem strE_ok {w : World} {β : Hd → Nat} {G : Hp} {env : Env} {a : Act} {c : Bool} (hc : c = true) (he : EnvR w β G env a) : ∀ (us : List Nat), NeedAll c (needE env us) → EnvR w β G (strE env us) a
  | [], _ => fun t => .p (.top _)
  | u :: us, hn => fun t => by
    simp only [strE, lk_cons]
    have hu := he u
    split
    · rename_i e
      rw [e]
      cases hx : lk env u with
      | opt g x =>
        simp only [needE, hx, NeedAll] at hn
        rw [hx] at hu
        cases hu with | opt _ _ _ h1 _ => exact h1 (hn.1 hc)
      | _ => rw [hx] at hu; exact hu
    · refine strE_ok hc he us ?_ t
      simp only [needE] at hn
      split at hn
      · exact hn.2
      · exact hn
theorem tmp_get {a : Act} {d : Nat} {v : Value} (hv : a.tmps.getD d undef = v) (hne : v ≠ undef) : a.tmps[d]? = some v := by
  have hlt : d < a.tmps.size := by
    rcases Nat.lt_or_ge d a.tmps.size with h | h
    · exact h
    · exact absurd (by rw [← hv]; simp [Array.getD, Nat.not_lt.2 h]) hne
  rw [Array.getElem?_eq_getElem hlt]
  simpa [Array.getD, hlt] using hv
theorem gB_ok {w : World} {β : Hd → Nat} {G : Hp} {ops : Array Oper} {env : Env} {a : Act} {j : Nat} {b c : Bool} (he : EnvR w β G env a) (h : gB ops env j b = some c) :
    (c = true → yielded ops a.tmps j = some b) ∧ (c = false → yielded ops a.tmps j ≠ some b) := by
  unfold gB at h
  unfold yielded
  split at h
  · rename_i d hd
    rw [hd]
    have hdd := he d
    split at h
    · rename_i c' hb
      obtain rfl : grd c' b = c := by simpa using h
      rw [hb] at hdd
      have h2 := tmp_get hdd.bool_inv (by simp [undef])
      cases b <;> cases c' <;> simp [grd, h2]
    · rename_i g c' hb
      obtain rfl : (g && grd c' b) = c := by simpa using h
      rw [hb] at hdd
      cases hdd with | opt _ _ _ h1 h2 =>
      cases g with
      | true =>
        have h3 := tmp_get (h1 rfl).bool_inv (by simp [undef])
        cases b <;> cases c' <;> simp [grd, h3]
      | false =>
        refine ⟨fun h => by simp at h, fun _ => ?_⟩
        have h3 := h2 rfl
        simp only [Option.bind_some]
        intro h4
        split at h4
        · rename_i b' hb'
          have : a.tmps.getD d undef = .bool b' := by
            rw [Array.getElem?_eq_some_iff] at hb'
            obtain ⟨hlt, hv⟩ := hb'
            simp [Array.getD, hlt, hv]
          rw [h3] at this
          simp [undef] at this
        · cases h4
    · cases h
  · cases h

section
variable {P : Program} {T : Tab} {Γ : Ctx} {env : Env} {H L : List AObj} {o : Oper} {x : TV} {Q : Exit → Act → World → Prop} {ops : Array Oper} {rest : List Oper}
theorem J_opt {j : Nat} {b c : Bool} (hg : o.guard = some (j, b)) (hb : gB ops env j b = some c) (hd : dstOk Γ.N o.dst = true) (hn : NeedAll c (needE env (o.looksAt ops)))
    (h : c = true → OpR P o (strE env (o.looksAt ops)) H L x H L) (k : J Γ (putE env o.dst (.opt c x)) H L (wpList P ops Q rest)) : J Γ env H L (wpList P ops Q (o :: rest)) := by
  intro a w β s
  obtain ⟨h1, h2⟩ := gB_ok s.env hb
  unfold wpList
  cases hc : c with
  | true =>
    rw [if_pos (by simp [Region.wanted, hg, h1 hc])]
    refine .inl (h hc Γ.F w β a _ Q s.sim (strE_ok hc s.env _ hn) fun w' β' u hS hst hx => k _ _ _ (s.next hd hS hst (.opt _ _ _ (fun _ => hx) fun h => ?_)))
    rw [hc] at h; cases h
  | false =>
    rw [if_neg (by simp [Region.wanted, hg, h2 hc])]
    refine k _ _ _ (s.next hd s.sim (Step.refl ..) (.opt _ _ _ (fun h => ?_) fun _ => rfl))
    rw [hc] at h; cases h
theorem opr_and {c a b : Operand} {v g p : Bool} (ho : o.op = .pick c a b) (hc : evA env c = .p (.bool v)) (ha : evA env a = .opt g (.p (.bool p))) (hb : evA env b = .p (.bool false)) (hg : v = true → g = true) :
    OpR P o env H L (.p (.bool (v && p))) H L :=
  opr_pure fun F w β ac _ he => by
    have h := evA_ok he c
    rw [hc] at h
    have h1 := evA_ok he a
    rw [ha] at h1
    have h2 := evA_ok he b
    rw [hb] at h2
    refine ⟨if v then ac.eval a else ac.eval b, by cases v <;> simp [execOp, ho, h.bool_inv, asBool], ?_⟩
    cases v with
    | true => cases h1 with | opt _ _ _ h1 _ => simpa using h1 (hg rfl)
    | false => simpa using h2
theorem notId {v : Bool} (h : v = false) : (!v) = true := by rw [h]; rfl
theorem opr_or {c a b : Operand} {v g p : Bool} (ho : o.op = .pick c a b) (hc : evA env c = .p (.bool v)) (ha : evA env a = .p (.bool true)) (hb : evA env b = .opt g (.p (.bool p))) (hg : v = false → g = true) :
    OpR P o env H L (.p (.bool (v || p))) H L :=
  opr_pure fun F w β ac _ he => by
    have h := evA_ok he c
    rw [hc] at h
    have h1 := evA_ok he a
    rw [ha] at h1
    have h2 := evA_ok he b
    rw [hb] at h2
    refine ⟨if v then ac.eval a else ac.eval b, by cases v <;> simp [execOp, ho, h.bool_inv, asBool], ?_⟩
    cases v with
    | false => cases h2 with | opt _ _ _ h1 _ => simpa using h1 (hg rfl)
    | true => simpa using h1
theorem need1 {c : Bool} : NeedAll c [c] := ⟨id, trivial⟩
theorem need2 {c : Bool} : NeedAll c [c, c] := ⟨id, id, trivial⟩
theorem need3 {c : Bool} : NeedAll c [c, c, c] := ⟨id, id, id, trivial⟩
end
end Go.Awp
