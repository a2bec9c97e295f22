/- From the second machine's answer to the model's calls, where the program has package variables (nobody looks at them); functions of the second machine may stand for others. -/
import Derived.Test.YtgnpkjfaekimcaaDoorAvJ
import Derived.Test.YtgnpkjfaekimcaaDoorAvC
set_option linter.unusedVariables false
set_option linter.unusedSimpArgs false
set_option linter.unusedSectionVars false
namespace Go.Av
open Go.ChangeShapes Go.WideShapes Go.ChangeAt Go.RowKit
/-- Objects that are dead, or only read, and where they lie. -/
def mpD (os : List (AObj × BI)) : Mp := fun b => (os[b]?).map (·.2)
def htD : List (AObj × BI) → Nat → HT → HT
  | [], _, t => t
  | x :: l, i, t => htD l (i + 1) (t.set i x.1)
def heapD (os : List (AObj × BI)) : AHeap := ⟨htD os 0 .e, os.length, 0⟩
theorem htD_get : ∀ (l : List (AObj × BI)) (i : Nat) (t : HT) (b : Nat), (htD l i t).get b = if i ≤ b then (match l[b - i]? with
    | some x => some x.1
    | none => t.get b) else t.get b
  | [], i, t, b => by simp [htD]
  | x :: l, i, t, b => by
    rw [htD, htD_get l (i + 1)]
    have hs : (t.set i x.1).get b = if b = i then some x.1 else t.get b := HT.get_setF _ _ _ _ (Nat.le_refl _) _
    by_cases h : i ≤ b
    · rw [if_pos h]
      by_cases e : b = i
      · subst e
        rw [if_neg (by omega), hs, if_pos rfl]; simp
      · rw [if_pos (by omega)]
        have : b - i = (b - (i + 1)) + 1 := by omega
        rw [this, List.getElem?_cons_succ, hs, if_neg e]
    · rw [if_neg (by omega), if_neg h, hs, if_neg (by omega)]
theorem heapD_get (os : List (AObj × BI)) (b : Nat) (x : AObj × BI) (h : os[b]? = some x) : (heapD os).get b = some x.1 := by
  show (htD os 0 .e).get b = _
  rw [htD_get]; simp [h]
/-- What such an object says of the world. -/
structure DOk (m : Mp) (w : World) (x : AObj × BI) : Prop where
  own : x.2.own = false
  size : x.2.blk < w.heap.size
  cells : x.1 = .dead ∨ ∃ c arr T fz, x.1 = .cells c .ro [] 0 ∧ w.heap[x.2.blk]? = some (.cells arr T fz) ∧ CellsAt m x.2.base c arr
theorem DOk.or {m : Mp} {w : World} {x : AObj × BI} (h : DOk m w x) : OR m x.2 w x.1 := by
  rcases h.cells with e | ⟨c, arr, T, fz, e, hw, hc⟩
  · rw [e]; exact .dead
  · rw [e]; exact .cells _ _ _ _ arr T fz hw hc (fun e => by cases e)
theorem hr_heapD {P : Program} {w : World} {os : List (AObj × BI)} (hg : Glob P (mpD os)) (h : ∀ x ∈ os, DOk (mpD os) w x) : HR P (mpD os) (heapD os) w := by
  have key : ∀ b q, mpD os b = some q → ∃ x, os[b]? = some x ∧ x.2 = q := by
    intro b q hb
    unfold mpD at hb
    cases e : os[b]? with
    | none => rw [e] at hb; cases hb
    | some x => rw [e] at hb; exact ⟨x, rfl, by simpa using hb⟩
  refine ⟨fun b q hb => ?_, fun b c qb qc ob oc hb hc hne hgb hgc hown => ?_, hg, fun b q o hb hgo p hp => ?_⟩
  · obtain ⟨x, hx, rfl⟩ := key b q hb
    have hd := h x (List.mem_of_getElem? hx)
    exact ⟨(List.getElem?_eq_some_iff.1 hx).1, hd.size, _, heapD_get os b x hx, hd.or⟩
  · obtain ⟨x, hx, rfl⟩ := key b qb hb
    rw [heapD_get os b x hx] at hgb
    injection hgb with hgb; subst hgb
    rcases (h x (List.mem_of_getElem? hx)).cells with e | ⟨c, _, _, _, e, _, _⟩ <;> (rw [e] at hown; exact hown.elim)
  · obtain ⟨x, hx, rfl⟩ := key b q hb
    rw [heapD_get os b x hx] at hgo
    injection hgo with hgo; subst hgo
    rcases (h x (List.mem_of_getElem? hx)).cells with e | ⟨c, _, _, _, e, _, _⟩ <;> (rw [e] at hp; simp [AObj.prevs] at hp)
def cxD (os : List (AObj × BI)) : Cx := ⟨fun _ => none, fun _ => 0, [], fun _ => none, fun _ => True, heapD os⟩
theorem prel_cxD (os : List (AObj × BI)) : PRel (cxD os) .empty := by
  refine ⟨rfl, fun b q h => ?_, fun b cs ez h => ?_, fun b es cl h => ?_, fun r v x ez h _ => ?_, fun B o h => ?_, fun B b h => ?_, fun B r h => ?_, fun B h => trivial, Nat.zero_le _⟩
  · cases h
  · have h' : PObj.dead = .cells cs ez := h; cases h'
  · have h' : PObj.dead = .map es cl := h; cases h'
  · have h' : Root.gone = .live v x ez := h; cases h'
  · cases h
  · cases h
  · cases h
theorem noFr_cxD (os : List (AObj × BI)) : NoFr (cxD os) := fun B i h => by cases h
theorem joinD {P : Program} {pf : Nat → Option PFunc} {fns : Nat → Option AFunc} (hf : FnsOk P fns) (hpf : ∀ f F, pf f = some F → ∃ A, fns f = some A ∧ Stands F A) (hmix : P.follows .mixedOrders = true)
    {os : List (AObj × BI)} (hg : Glob P (mpD os)) {w : World} (hos : ∀ x ∈ os, DOk (mpD os) w x) {f : Nat} {pas : List PV} {aas : List AV} {cargs : Array Value} (hp : VRelL (cxD os) pas aas) (hv : VRL (mpD os) aas cargs.toList)
    {b : Bool} {σ : PH} (e : PC pf f pas .empty = some (.b b, σ)) : Calls P f cargs w fun e w' => e = .returned (.bool b) ∧ Below w.heap.size w w' := by
  obtain ⟨n, hn⟩ := PC_inv e
  obtain ⟨a, X', ha, _, _, _, hva⟩ := prun_stands hpf n hn (prel_cxD os) (noFr_cxD os) hp
  cases hva
  obtain ⟨_, hc⟩ := acall_sound hf hmix n f aas (heapD os) _ _ ha
  refine (hc _ w cargs (hr_heapD hg hos) hv).mono fun e w' ⟨cv, m', he', hact⟩ => ?_
  have hvr := hact.vr
  cases hvr
  refine ⟨he', hact.chg.os, hact.chg.tape, hact.chg.output, hact.chg.size, fun k hk => hact.chg.same k hk fun c q hq hown => ?_⟩
  unfold mpD at hq
  cases hx : os[c]? with
  | none => rw [hx] at hq; cases hq
  | some x =>
    rw [hx] at hq
    have : x.2 = q := by simpa using hq
    subst this
    rw [(hos x (List.mem_of_getElem? hx)).own] at hown
    cases hown
/-! ## Arguments -/
theorem mpD_le (os nw : List (AObj × BI)) : (mpD os).Le (mpD (os ++ nw)) := by
  intro b q h
  unfold mpD at h ⊢
  cases e : os[b]? with
  | none => rw [e] at h; cases h
  | some x => rw [List.getElem?_append_left (List.getElem?_eq_some_iff.1 e).1, e]; rw [e] at h; exact h
theorem cxD_mv (os nw : List (AObj × BI)) : Mv false (cxD os) (cxD (os ++ nw)) := by
  intro B ho hB _
  have hB : B < os.length := hB
  obtain ⟨x, hx⟩ : ∃ x, os[B]? = some x := ⟨_, List.getElem?_eq_getElem hB⟩
  refine ⟨rfl, ?_, by show B < (os ++ nw).length; simp; omega, fun _ => trivial⟩
  show (heapD (os ++ nw)).get B = (heapD os).get B
  rw [heapD_get _ _ x (by rw [List.getElem?_append_left hB, hx]), heapD_get _ _ x hx]
theorem DOk.mono {m m' : Mp} {w : World} {x : AObj × BI} (h : DOk m w x) (k : m.Le m') : DOk m' w x := by
  obtain ⟨h1, h2, h3⟩ := h
  refine ⟨h1, h2, ?_⟩
  rcases h3 with e | ⟨c, arr, T, fz, e, hw, hc⟩
  · exact .inl e
  · exact .inr ⟨c, arr, T, fz, e, hw, hc.mono k⟩
def ArgD (w : World) (v : Value) (pv : PV) : Prop := isClo false pv = true ∧ ∀ os, ∃ nw a, (∀ x ∈ nw, DOk (mpD (os ++ nw)) w x) ∧ VR (mpD (os ++ nw)) a v ∧ VRel (cxD (os ++ nw)) pv a
def ArgsD (w : World) (vs : List Value) (pvs : List PV) : Prop := cloL false pvs = true ∧ ∀ os, ∃ nw as, (∀ x ∈ nw, DOk (mpD (os ++ nw)) w x) ∧ VRL (mpD (os ++ nw)) as vs ∧ VRelL (cxD (os ++ nw)) pvs as
theorem argsD_nil (w : World) : ArgsD w [] [] := ⟨rfl, fun os => ⟨[], [], fun x hx => (by cases hx), .nil, .nil⟩⟩
theorem argsD_cons {w : World} {v : Value} {pv : PV} {vs : List Value} {pvs : List PV} (h : ArgD w v pv) (hl : ArgsD w vs pvs) : ArgsD w (v :: vs) (pv :: pvs) := by
  obtain ⟨hc, h⟩ := h
  obtain ⟨hcl, hl⟩ := hl
  refine ⟨by rw [cloL, hc, hcl]; rfl, fun os => ?_⟩
  obtain ⟨nw, a, h1, h2, h3⟩ := h os
  obtain ⟨nw', as, k1, k2, k3⟩ := hl (os ++ nw)
  refine ⟨nw ++ nw', a :: as, fun x hx => ?_, ?_, ?_⟩ <;> rw [← List.append_assoc]
  · rcases List.mem_append.1 hx with hx | hx
    · exact (h1 x hx).mono (mpD_le _ _)
    · exact k1 x hx
  · exact .cons _ _ _ _ (h2.mono (mpD_le _ _)) k2
  · exact .cons _ _ _ _ (VRel.move (cxD_mv _ _) h3 hc) k3
theorem argD_int (w : World) (n : Int) : ArgD w (.int .i64 n) (.i .i64 n) := ⟨rfl, fun os => ⟨[], _, fun x hx => (by cases hx), .i _ _, .i _ _⟩⟩
theorem argD_bool (w : World) (b : Bool) : ArgD w (.bool b) (.b b) := ⟨rfl, fun os => ⟨[], _, fun x hx => (by cases hx), .b _, .b _⟩⟩
/-- n package variables that nobody looks at. -/
def globD (n : Nat) : List (AObj × BI) := (List.range n).map fun g => (.dead, ⟨g, 0, 0, false⟩)
theorem globD_ok {n : Nat} {w : World} (h : n ≤ w.heap.size) (m : Mp) : ∀ x ∈ globD n, DOk m w x := by
  intro x hx
  obtain ⟨g, hg, rfl⟩ := List.mem_map.1 hx
  exact ⟨rfl, by have := List.mem_range.1 hg; show g < w.heap.size; omega, .inl rfl⟩
theorem globD_glob {P : Program} (nw : List (AObj × BI)) : Glob P (mpD (globD P.globals.size ++ nw)) := by
  intro g hg
  unfold mpD globD
  rw [List.getElem?_append_left (by simpa using hg)]
  simp [hg]
theorem joinD_args {P : Program} {pf : Nat → Option PFunc} {fns : Nat → Option AFunc} (hf : FnsOk P fns) (hpf : ∀ f F, pf f = some F → ∃ A, fns f = some A ∧ Stands F A) (hmix : P.follows .mixedOrders = true)
    {w : World} (hsz : P.globals.size ≤ w.heap.size) {f : Nat} {pas : List PV} {cargs : Array Value} (ha : ArgsD w cargs.toList pas) {b : Bool} (e : iso (PC pf) f pas = some (.b b)) : Calls P f cargs w fun e w' => e = .returned (.bool b) ∧ Below w.heap.size w w' := by
  obtain ⟨σ, h⟩ := iso_bool e
  obtain ⟨nw, as, h1, h2, h3⟩ := ha.2 (globD P.globals.size)
  refine joinD hf hpf hmix (globD_glob nw) (fun x hx => ?_) h3 h2 h
  rcases List.mem_append.1 hx with hx | hx
  · exact globD_ok hsz _ x hx
  · exact h1 x hx
end Go.Av
