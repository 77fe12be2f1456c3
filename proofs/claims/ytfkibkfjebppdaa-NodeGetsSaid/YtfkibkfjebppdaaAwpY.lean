/- Reckoning with values told out, so that environments stay small. No program is named here. -/
import Derived.Test.YtfkibkfjebppdaaAwpX
namespace Go.Awp
open Go.RowKit
def frcV {α : Type} (x : AV) (k : AV → Option α) : Option α := match x with
  | .int a b => k (.int a b)
  | .bool b => k (.bool b)
  | .str l => k (.str l)
  | .nilp => k .nilp
  | .pp c => k (.pp c)
  | .nils => k .nils
  | .cz => k .cz
  | .ps r => k (.ps r)
  | .agg l => k (.agg l)
  | .top => k .top
def frcT {α : Type} (x : TV) (k : TV → Option α) : Option α := match x with
  | .p v => frcV v fun v' => k (.p v')
  | .ad h o => k (.ad h o)
  | .sl h a b c => k (.sl h a b c)
  | .el s e i o => k (.el s e i o)
  | .agg l => k (.agg l)
  | .tup l => k (.tup l)
  | .fn f l => k (.fn f l)
  | .opt g x => k (.opt g x)
def frcL {α : Type} : List TV → (List TV → Option α) → Option α
  | [], k => k []
  | x :: r, k => frcT x fun x' => frcL r fun r' => k (x' :: r')
/-- The same, what stays left as it is told. -/
def frcU {α : Type} (x : TV) (k : TV → Option α) : Option α := match x with
  | .p v => k (.p v)
  | .ad h o => k (.ad h o)
  | .sl h a b c => k (.sl h a b c)
  | .el s e i o => k (.el s e i o)
  | .agg l => k (.agg l)
  | .tup l => k (.tup l)
  | .fn f l => k (.fn f l)
  | .opt g x => k (.opt g x)
def frcUL {α : Type} : List TV → (List TV → Option α) → Option α
  | [], k => k []
  | x :: r, k => frcU x fun x' => frcUL r fun r' => k (x' :: r')
theorem frcU_eq {α : Type} (x : TV) (k : TV → Option α) : frcU x k = k x := by cases x <;> rfl
theorem frcUL_eq {α : Type} : ∀ (l : List TV) (k : List TV → Option α), frcUL l k = k l
  | [], _ => rfl
  | x :: r, k => by simp only [frcUL, frcU_eq, frcUL_eq r]
def frcO {α : Type} (x : AObj) (k : AObj → Option α) : Option α := match x with
  | .dead => k .dead
  | .box t cs => frcUL cs fun cs' => k (.box t cs')
  | .arr t a e r => k (.arr t a e r)
  | .iter s p => k (.iter s p)
def frcM {α : Type} : List AObj → (List AObj → Option α) → Option α
  | [], k => k []
  | x :: r, k => frcO x fun x' => frcM r fun r' => k (x' :: r')
theorem frcV_eq {α : Type} (x : AV) (k : AV → Option α) : frcV x k = k x := by cases x <;> rfl
theorem frcT_eq {α : Type} (x : TV) (k : TV → Option α) : frcT x k = k x := by cases x <;> first | rfl | simp [frcT, frcV_eq]
theorem frcL_eq {α : Type} : ∀ (l : List TV) (k : List TV → Option α), frcL l k = k l
  | [], _ => rfl
  | x :: r, k => by simp only [frcL, frcT_eq, frcL_eq r]
theorem frcO_eq {α : Type} (x : AObj) (k : AObj → Option α) : frcO x k = k x := by cases x <;> first | rfl | simp [frcO, frcUL_eq]
theorem frcM_eq {α : Type} : ∀ (l : List AObj) (k : List AObj → Option α), frcM l k = k l
  | [], _ => rfl
  | x :: r, k => by simp only [frcM, frcO_eq, frcM_eq r]
def nrm : Option (TV × List AObj) → Option (TV × List AObj)
  | some (x, L) => frcT x fun x' => frcM L fun L' => some (x', L')
  | none => none
theorem nrm_eq (o : Option (TV × List AObj)) : nrm o = o := by
  match o with
  | none => rfl
  | some (x, L) => simp only [nrm, frcT_eq, frcM_eq]
def stepN (T : Tab) (env : Env) (L : List AObj) (o : Op) : Option (TV × List AObj) := nrm (stepA T env L o)
theorem stepN_ok {P : Program} {T : Tab} {env : Env} {H L : List AObj} {o : Oper} {x : TV} (hT : TabOk P T) {L' : List AObj} (h : stepN T env L o.op = some (x, L')) : OpR P o env H L x H L' :=
  stepA_ok hT (by rw [← nrm_eq (stepA T env L o.op)]; exact h)
end Go.Awp
