/- The steps of a region, as laws that are cheap for the kernel. -/
import Derived.Test.YtliflkakagkofaaAvX
set_option linter.unusedVariables false
set_option linter.unusedSimpArgs false
set_option linter.unusedSectionVars false
namespace Go.Av
def pcont (call : PCall) (b : Bool) (os : List PRO) (rs vs : List PV) (var : Option Nat) : Option (PV × PH) → Option PSt
  | some (v, σ') => prunOps call b os (v :: rs) (psetVar vs var v) σ'
  | none => none
@[simp] theorem pcont_some {call : PCall} {b : Bool} {os : List PRO} {rs vs : List PV} {var : Option Nat} {v : PV} {σ' : PH} : pcont call b os rs vs var (some (v, σ')) = prunOps call b os (v :: rs) (psetVar vs var v) σ' := by unfold pcont; exact (Eq.trans rfl rfl)
@[simp] theorem prun_nil {call : PCall} {top : Bool} {rs vs : List PV} {σ : PH} : prunOps call top [] rs vs σ = some ⟨vs, σ⟩ := by unfold prunOps; exact (Eq.trans rfl rfl)
@[simp] theorem prun_all {call : PCall} {top : Bool} {rs vs : List PV} {σ : PH} {op : AOp} {var : Option Nat} {bar : Bar} {md : Mode} {os : List PRO} :
    prunOps call top (⟨op, none, var, bar, md⟩ :: os) rs vs σ = pcont call (isBoxP ⟨op, none, var, bar, md⟩) os rs vs var (pstepBar call top ⟨op, none, var, bar, md⟩ rs vs σ) := by
  rw [prunOps]; simp only [pwanted]
  generalize pstepBar call top ⟨op, none, var, bar, md⟩ rs vs σ = x
  cases x <;> exact (Eq.trans rfl rfl)
def pgo (call : PCall) (top : Bool) (o : PRO) (os : List PRO) (rs vs : List PV) (σ : PH) : Option Bool → Option PSt
  | some true => pcont call (isBoxP o) os rs vs o.var (pstepBar call top o rs vs σ)
  | some false => prunOps call false os (.tup [] :: rs) (psetVar vs o.var (.tup [])) σ
  | none => none
@[simp] theorem pgo_true {call : PCall} {top : Bool} {o : PRO} {os : List PRO} {rs vs : List PV} {σ : PH} : pgo call top o os rs vs σ (some true) = pcont call (isBoxP o) os rs vs o.var (pstepBar call top o rs vs σ) := by unfold pgo; exact (Eq.trans rfl rfl)
@[simp] theorem pgo_false {call : PCall} {top : Bool} {o : PRO} {os : List PRO} {rs vs : List PV} {σ : PH} : pgo call top o os rs vs σ (some false) = prunOps call false os (.tup [] :: rs) (psetVar vs o.var (.tup [])) σ := by unfold pgo; exact (Eq.trans rfl rfl)
@[simp] theorem prun_g {call : PCall} {top : Bool} {rs vs : List PV} {σ : PH} {op : AOp} {g : Nat × Bool} {var : Option Nat} {bar : Bar} {md : Mode} {os : List PRO} :
    prunOps call top (⟨op, some g, var, bar, md⟩ :: os) rs vs σ = pgo call top ⟨op, some g, var, bar, md⟩ os rs vs σ (pwanted rs (some g)) := by
  rw [prunOps]
  generalize pwanted rs (some g) = x
  rcases x with _ | _ | _
  · exact (Eq.trans rfl rfl)
  · exact (Eq.trans rfl rfl)
  · rw [pgo_true]
    simp only
    generalize pstepBar call top ⟨op, some g, var, bar, md⟩ rs vs σ = x
    cases x <;> exact (Eq.trans rfl rfl)
end Go.Av
