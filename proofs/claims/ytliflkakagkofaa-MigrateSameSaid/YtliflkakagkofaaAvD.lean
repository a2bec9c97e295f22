/- The statements' data, as values. -/
import Derived.Test.YtliflkakagkofaaAvK
set_option linter.unusedVariables false
set_option linter.unusedSimpArgs false
set_option linter.unusedSectionVars false
namespace Go.Av
structure PCell where
  path : List UInt8
  kind : Int
  retain : Bool
  init : Int
  len : Int
  block : Int
structure PFld where
  name : List UInt8
  kind : Int
structure PTy where
  kind : Int
  elem : Int
  n : Int
  fields : List PFld
structure PSym where
  name : List UInt8
  type : PTy
  retain : Bool
  init : List Int
  bor : Bool
def encI (n : Int) : List PV := [.i .i64 n]
def vl {α : Type} (enc : α → List PV) (l : List α) : PV := .ls (.v false false) l.length (l.flatMap enc)
def PCell.enc (c : PCell) : List PV := [.s c.path, .i .i64 c.kind, .b c.retain, .i .i64 c.init, .i .i64 c.len, .i .i64 c.block]
def PFld.enc (f : PFld) : List PV := [.s f.name, .i .i64 f.kind]
def PTy.enc (t : PTy) : List PV := [.i .i64 t.kind, .i .i64 t.elem, .i .i64 t.n, vl PFld.enc t.fields]
def PSym.enc (s : PSym) : List PV := [.s s.name, .i .i64 s.type.kind, .i .i64 s.type.elem, .i .i64 s.type.n, vl PFld.enc s.type.fields, .b s.retain, .ls (.v s.bor false) s.init.length (s.init.flatMap encI)]
@[simp high] theorem flat_lenI (l : List Int) : (l.flatMap encI).length = l.length := by rw [flat_len (enc := encI) (k := 1) (fun _ => rfl) l]; omega
@[simp high] theorem flat_lenC (l : List PCell) : (l.flatMap PCell.enc).length = l.length * 6 := flat_len (enc := PCell.enc) (k := 6) (fun _ => rfl) l
@[simp high] theorem flat_lenF (l : List PFld) : (l.flatMap PFld.enc).length = l.length * 2 := flat_len (enc := PFld.enc) (k := 2) (fun _ => rfl) l
@[simp high] theorem flat_lenS (l : List PSym) : (l.flatMap PSym.enc).length = l.length * 7 := flat_len (enc := PSym.enc) (k := 7) (fun _ => rfl) l
theorem shutI (l : List Int) : ShutL (l.flatMap encI) := flat_shut (fun a => by simp [ShutL, encI, Shut]) l
theorem shutF (l : List PFld) : ShutL (l.flatMap PFld.enc) := flat_shut (fun a => by simp [ShutL, PFld.enc, Shut]) l
theorem shutC (l : List PCell) : ShutL (l.flatMap PCell.enc) := flat_shut (fun a => by simp [ShutL, PCell.enc, Shut]) l
theorem shutS {l : List PSym} (h : ∀ s ∈ l, s.bor = false) : ShutL (l.flatMap PSym.enc) := by
  intro v hv
  obtain ⟨a, ha, hm⟩ := List.mem_flatMap.1 hv
  have hb := h a ha
  have key : ShutL a.enc := by simp [ShutL, PSym.enc, Shut, vl, hb]
  exact key v hm
/-! ## What lies where -/
section at_
variable (i : Nat)
theorem I_at (l : List Int) (h : i < l.length) : pget (l.flatMap encI) i = some (.i .i64 l[i]) := by
  have := flat_get (enc := encI) (k := 1) (fun _ => rfl) l i l[i] (by simp [h]) 0 (by omega)
  simpa [encI] using this
theorem C_path (l : List PCell) (h : i < l.length) : pget (l.flatMap PCell.enc) (i * 6) = some (.s l[i].path) := by
  simpa [PCell.enc] using flat_get (enc := PCell.enc) (k := 6) (fun _ => rfl) l i l[i] (by simp [h]) 0 (by omega)
theorem C_kind (l : List PCell) (h : i < l.length) : pget (l.flatMap PCell.enc) (i * 6 + 1) = some (.i .i64 l[i].kind) := by
  simpa [PCell.enc] using flat_get (enc := PCell.enc) (k := 6) (fun _ => rfl) l i l[i] (by simp [h]) 1 (by omega)
theorem C_retain (l : List PCell) (h : i < l.length) : pget (l.flatMap PCell.enc) (i * 6 + 2) = some (.b l[i].retain) := by
  simpa [PCell.enc] using flat_get (enc := PCell.enc) (k := 6) (fun _ => rfl) l i l[i] (by simp [h]) 2 (by omega)
theorem C_init (l : List PCell) (h : i < l.length) : pget (l.flatMap PCell.enc) (i * 6 + 3) = some (.i .i64 l[i].init) := by
  simpa [PCell.enc] using flat_get (enc := PCell.enc) (k := 6) (fun _ => rfl) l i l[i] (by simp [h]) 3 (by omega)
theorem F_name (l : List PFld) (h : i < l.length) : pget (l.flatMap PFld.enc) (i * 2) = some (.s l[i].name) := by
  simpa [PFld.enc] using flat_get (enc := PFld.enc) (k := 2) (fun _ => rfl) l i l[i] (by simp [h]) 0 (by omega)
theorem F_kind (l : List PFld) (h : i < l.length) : pget (l.flatMap PFld.enc) (i * 2 + 1) = some (.i .i64 l[i].kind) := by
  simpa [PFld.enc] using flat_get (enc := PFld.enc) (k := 2) (fun _ => rfl) l i l[i] (by simp [h]) 1 (by omega)
theorem S_name (l : List PSym) (h : i < l.length) : pget (l.flatMap PSym.enc) (i * 7) = some (.s l[i].name) := by
  simpa [PSym.enc] using flat_get (enc := PSym.enc) (k := 7) (fun _ => rfl) l i l[i] (by simp [h]) 0 (by omega)
theorem S_tkind (l : List PSym) (h : i < l.length) : pget (l.flatMap PSym.enc) (i * 7 + 1) = some (.i .i64 l[i].type.kind) := by
  simpa [PSym.enc] using flat_get (enc := PSym.enc) (k := 7) (fun _ => rfl) l i l[i] (by simp [h]) 1 (by omega)
theorem S_telem (l : List PSym) (h : i < l.length) : pget (l.flatMap PSym.enc) (i * 7 + 2) = some (.i .i64 l[i].type.elem) := by
  simpa [PSym.enc] using flat_get (enc := PSym.enc) (k := 7) (fun _ => rfl) l i l[i] (by simp [h]) 2 (by omega)
theorem S_tn (l : List PSym) (h : i < l.length) : pget (l.flatMap PSym.enc) (i * 7 + 3) = some (.i .i64 l[i].type.n) := by
  simpa [PSym.enc] using flat_get (enc := PSym.enc) (k := 7) (fun _ => rfl) l i l[i] (by simp [h]) 3 (by omega)
theorem S_tfields (l : List PSym) (h : i < l.length) : pget (l.flatMap PSym.enc) (i * 7 + 4) = some (vl PFld.enc l[i].type.fields) := by
  simpa [PSym.enc] using flat_get (enc := PSym.enc) (k := 7) (fun _ => rfl) l i l[i] (by simp [h]) 4 (by omega)
theorem S_retain (l : List PSym) (h : i < l.length) : pget (l.flatMap PSym.enc) (i * 7 + 5) = some (.b l[i].retain) := by
  simpa [PSym.enc] using flat_get (enc := PSym.enc) (k := 7) (fun _ => rfl) l i l[i] (by simp [h]) 5 (by omega)
theorem S_init (l : List PSym) (h : i < l.length) : pget (l.flatMap PSym.enc) (i * 7 + 6) = some (.ls (.v l[i].bor false) l[i].init.length (l[i].init.flatMap encI)) := by
  simpa [PSym.enc] using flat_get (enc := PSym.enc) (k := 7) (fun _ => rfl) l i l[i] (by simp [h]) 6 (by omega)
theorem S_at (l : List PSym) (h : i < l.length) : psub (l.flatMap PSym.enc) (i * 7) 7 = some l[i].enc :=
  flat_sub (enc := PSym.enc) (k := 7) (fun _ => rfl) l i l[i] (by simp [h])
theorem C_at (l : List PCell) (h : i < l.length) : psub (l.flatMap PCell.enc) (i * 6) 6 = some l[i].enc :=
  flat_sub (enc := PCell.enc) (k := 6) (fun _ => rfl) l i l[i] (by simp [h])
end at_
end Go.Av
