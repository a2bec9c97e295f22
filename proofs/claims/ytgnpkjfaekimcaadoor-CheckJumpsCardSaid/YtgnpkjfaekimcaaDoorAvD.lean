/- The data; the steps of a region. -/
import Derived.Test.YtgnpkjfaekimcaaDoorAvK
import Derived.Test.YtgnpkjfaekimcaaDoorAvX
set_option linter.unusedVariables false
set_option linter.unusedSimpArgs false
set_option linter.unusedSectionVars false
section
/- The statements' data, as values. -/
namespace Go.Av
structure PCell where
  path : List UInt8
  kind : Int
  retain : Bool
  init : Int
  len : Int
  block : Int
structure PFld where
  name : List UInt8
  kind : Int
structure PTy where
  kind : Int
  elem : Int
  n : Int
  fields : List PFld
structure PSym where
  name : List UInt8
  type : PTy
  retain : Bool
  init : List Int
  bor : Bool
def encI (n : Int) : List PV := [.i .i64 n]
def vl {α : Type} (enc : α → List PV) (l : List α) : PV := .ls (.v false false) l.length (l.flatMap enc)
def PCell.enc (c : PCell) : List PV := [.s c.path, .i .i64 c.kind, .b c.retain, .i .i64 c.init, .i .i64 c.len, .i .i64 c.block]
def PFld.enc (f : PFld) : List PV := [.s f.name, .i .i64 f.kind]
def PTy.enc (t : PTy) : List PV := [.i .i64 t.kind, .i .i64 t.elem, .i .i64 t.n, vl PFld.enc t.fields]
def PSym.enc (s : PSym) : List PV := [.s s.name, .i .i64 s.type.kind, .i .i64 s.type.elem, .i .i64 s.type.n, vl PFld.enc s.type.fields, .b s.retain, .ls (.v s.bor false) s.init.length (s.init.flatMap encI)]
@[simp high] theorem flat_lenI (l : List Int) : (l.flatMap encI).length = l.length := by rw [flat_len (enc := encI) (k := 1) (fun _ => rfl) l]; omega
@[simp high] theorem flat_lenC (l : List PCell) : (l.flatMap PCell.enc).length = l.length * 6 := flat_len (enc := PCell.enc) (k := 6) (fun _ => rfl) l
@[simp high] theorem flat_lenF (l : List PFld) : (l.flatMap PFld.enc).length = l.length * 2 := flat_len (enc := PFld.enc) (k := 2) (fun _ => rfl) l
@[simp high] theorem flat_lenS (l : List PSym) : (l.flatMap PSym.enc).length = l.length * 7 := flat_len (enc := PSym.enc) (k := 7) (fun _ => rfl) l
theorem shutI (l : List Int) : ShutL (l.flatMap encI) := flat_shut (fun a => by simp [ShutL, encI, Shut]) l
theorem shutF (l : List PFld) : ShutL (l.flatMap PFld.enc) := flat_shut (fun a => by simp [ShutL, PFld.enc, Shut]) l
theorem shutC (l : List PCell) : ShutL (l.flatMap PCell.enc) := flat_shut (fun a => by simp [ShutL, PCell.enc, Shut]) l
theorem shutS {l : List PSym} (h : ∀ s ∈ l, s.bor = false) : ShutL (l.flatMap PSym.enc) := by
  intro v hv
  obtain ⟨a, ha, hm⟩ := List.mem_flatMap.1 hv
  have hb := h a ha
  have key : ShutL a.enc := by simp [ShutL, PSym.enc, Shut, vl, hb]
  exact key v hm
/-! ## What lies where -/
section at_
variable (i : Nat)
theorem I_at (l : List Int) (h : i < l.length) : pget (l.flatMap encI) i = some (.i .i64 l[i]) := by
  have := flat_get (enc := encI) (k := 1) (fun _ => rfl) l i l[i] (by simp [h]) 0 (by omega)
  simpa [encI] using this
theorem C_path (l : List PCell) (h : i < l.length) : pget (l.flatMap PCell.enc) (i * 6) = some (.s l[i].path) := by
  simpa [PCell.enc] using flat_get (enc := PCell.enc) (k := 6) (fun _ => rfl) l i l[i] (by simp [h]) 0 (by omega)
theorem C_kind (l : List PCell) (h : i < l.length) : pget (l.flatMap PCell.enc) (i * 6 + 1) = some (.i .i64 l[i].kind) := by
  simpa [PCell.enc] using flat_get (enc := PCell.enc) (k := 6) (fun _ => rfl) l i l[i] (by simp [h]) 1 (by omega)
theorem C_retain (l : List PCell) (h : i < l.length) : pget (l.flatMap PCell.enc) (i * 6 + 2) = some (.b l[i].retain) := by
  simpa [PCell.enc] using flat_get (enc := PCell.enc) (k := 6) (fun _ => rfl) l i l[i] (by simp [h]) 2 (by omega)
theorem C_init (l : List PCell) (h : i < l.length) : pget (l.flatMap PCell.enc) (i * 6 + 3) = some (.i .i64 l[i].init) := by
  simpa [PCell.enc] using flat_get (enc := PCell.enc) (k := 6) (fun _ => rfl) l i l[i] (by simp [h]) 3 (by omega)
theorem F_name (l : List PFld) (h : i < l.length) : pget (l.flatMap PFld.enc) (i * 2) = some (.s l[i].name) := by
  simpa [PFld.enc] using flat_get (enc := PFld.enc) (k := 2) (fun _ => rfl) l i l[i] (by simp [h]) 0 (by omega)
theorem F_kind (l : List PFld) (h : i < l.length) : pget (l.flatMap PFld.enc) (i * 2 + 1) = some (.i .i64 l[i].kind) := by
  simpa [PFld.enc] using flat_get (enc := PFld.enc) (k := 2) (fun _ => rfl) l i l[i] (by simp [h]) 1 (by omega)
theorem S_name (l : List PSym) (h : i < l.length) : pget (l.flatMap PSym.enc) (i * 7) = some (.s l[i].name) := by
  simpa [PSym.enc] using flat_get (enc := PSym.enc) (k := 7) (fun _ => rfl) l i l[i] (by simp [h]) 0 (by omega)
theorem S_tkind (l : List PSym) (h : i < l.length) : pget (l.flatMap PSym.enc) (i * 7 + 1) = some (.i .i64 l[i].type.kind) := by
  simpa [PSym.enc] using flat_get (enc := PSym.enc) (k := 7) (fun _ => rfl) l i l[i] (by simp [h]) 1 (by omega)
theorem S_telem (l : List PSym) (h : i < l.length) : pget (l.flatMap PSym.enc) (i * 7 + 2) = some (.i .i64 l[i].type.elem) := by
  simpa [PSym.enc] using flat_get (enc := PSym.enc) (k := 7) (fun _ => rfl) l i l[i] (by simp [h]) 2 (by omega)
theorem S_tn (l : List PSym) (h : i < l.length) : pget (l.flatMap PSym.enc) (i * 7 + 3) = some (.i .i64 l[i].type.n) := by
  simpa [PSym.enc] using flat_get (enc := PSym.enc) (k := 7) (fun _ => rfl) l i l[i] (by simp [h]) 3 (by omega)
theorem S_tfields (l : List PSym) (h : i < l.length) : pget (l.flatMap PSym.enc) (i * 7 + 4) = some (vl PFld.enc l[i].type.fields) := by
  simpa [PSym.enc] using flat_get (enc := PSym.enc) (k := 7) (fun _ => rfl) l i l[i] (by simp [h]) 4 (by omega)
theorem S_retain (l : List PSym) (h : i < l.length) : pget (l.flatMap PSym.enc) (i * 7 + 5) = some (.b l[i].retain) := by
  simpa [PSym.enc] using flat_get (enc := PSym.enc) (k := 7) (fun _ => rfl) l i l[i] (by simp [h]) 5 (by omega)
theorem S_init (l : List PSym) (h : i < l.length) : pget (l.flatMap PSym.enc) (i * 7 + 6) = some (.ls (.v l[i].bor false) l[i].init.length (l[i].init.flatMap encI)) := by
  simpa [PSym.enc] using flat_get (enc := PSym.enc) (k := 7) (fun _ => rfl) l i l[i] (by simp [h]) 6 (by omega)
theorem S_at (l : List PSym) (h : i < l.length) : psub (l.flatMap PSym.enc) (i * 7) 7 = some l[i].enc :=
  flat_sub (enc := PSym.enc) (k := 7) (fun _ => rfl) l i l[i] (by simp [h])
theorem C_at (l : List PCell) (h : i < l.length) : psub (l.flatMap PCell.enc) (i * 6) 6 = some l[i].enc :=
  flat_sub (enc := PCell.enc) (k := 6) (fun _ => rfl) l i l[i] (by simp [h])
end at_
end Go.Av
end
section
/- The steps of a region, as laws that are cheap for the kernel. -/
namespace Go.Av
def pcont (call : PCall) (b : Bool) (os : List PRO) (rs vs : List PV) (var : Option Nat) : Option (PV × PH) → Option PSt
  | some (v, σ') => prunOps call b os (v :: rs) (psetVar vs var v) σ'
  | none => none
@[simp] theorem pcont_some {call : PCall} {b : Bool} {os : List PRO} {rs vs : List PV} {var : Option Nat} {v : PV} {σ' : PH} : pcont call b os rs vs var (some (v, σ')) = prunOps call b os (v :: rs) (psetVar vs var v) σ' := by unfold pcont; exact (Eq.trans rfl rfl)
@[simp] theorem prun_nil {call : PCall} {top : Bool} {rs vs : List PV} {σ : PH} : prunOps call top [] rs vs σ = some ⟨vs, σ⟩ := by unfold prunOps; exact (Eq.trans rfl rfl)
@[simp] theorem prun_all {call : PCall} {top : Bool} {rs vs : List PV} {σ : PH} {op : AOp} {var : Option Nat} {bar : Bar} {md : Mode} {os : List PRO} :
    prunOps call top (⟨op, none, var, bar, md⟩ :: os) rs vs σ = pcont call (isBoxP ⟨op, none, var, bar, md⟩) os rs vs var (pstepBar call top ⟨op, none, var, bar, md⟩ rs vs σ) := by
  rw [prunOps]; simp only [pwanted]
  generalize pstepBar call top ⟨op, none, var, bar, md⟩ rs vs σ = x
  cases x <;> exact (Eq.trans rfl rfl)
def pgo (call : PCall) (top : Bool) (o : PRO) (os : List PRO) (rs vs : List PV) (σ : PH) : Option Bool → Option PSt
  | some true => pcont call (isBoxP o) os rs vs o.var (pstepBar call top o rs vs σ)
  | some false => prunOps call false os (.tup [] :: rs) (psetVar vs o.var (.tup [])) σ
  | none => none
@[simp] theorem pgo_true {call : PCall} {top : Bool} {o : PRO} {os : List PRO} {rs vs : List PV} {σ : PH} : pgo call top o os rs vs σ (some true) = pcont call (isBoxP o) os rs vs o.var (pstepBar call top o rs vs σ) := by unfold pgo; exact (Eq.trans rfl rfl)
@[simp] theorem pgo_false {call : PCall} {top : Bool} {o : PRO} {os : List PRO} {rs vs : List PV} {σ : PH} : pgo call top o os rs vs σ (some false) = prunOps call false os (.tup [] :: rs) (psetVar vs o.var (.tup [])) σ := by unfold pgo; exact (Eq.trans rfl rfl)
@[simp] theorem prun_g {call : PCall} {top : Bool} {rs vs : List PV} {σ : PH} {op : AOp} {g : Nat × Bool} {var : Option Nat} {bar : Bar} {md : Mode} {os : List PRO} :
    prunOps call top (⟨op, some g, var, bar, md⟩ :: os) rs vs σ = pgo call top ⟨op, some g, var, bar, md⟩ os rs vs σ (pwanted rs (some g)) := by
  rw [prunOps]
  generalize pwanted rs (some g) = x
  rcases x with _ | _ | _
  · exact (Eq.trans rfl rfl)
  · exact (Eq.trans rfl rfl)
  · rw [pgo_true]
    simp only
    generalize pstepBar call top ⟨op, some g, var, bar, md⟩ rs vs σ = x
    cases x <;> exact (Eq.trans rfl rfl)
end Go.Av
end
