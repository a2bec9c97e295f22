/- From the second machine's answer to the model's calls: arguments lie where they lie, and are only read. -/
import Derived.Test.YtliflkakagkofaaAvK
import Derived.Test.YtliflkakagkofaaAvEnd
set_option linter.unusedVariables false
set_option linter.unusedSimpArgs false
set_option linter.unusedSectionVars false
namespace Go.Av
open Go.RowKit
/-- A heap of objects that are only read, and where they lie. -/
def mpOf (os : List (List AV × BI)) : Mp := fun b => (os[b]?).map (·.2)
def htOf : List (List AV × BI) → Nat → HT → HT
  | [], _, t => t
  | x :: l, i, t => htOf l (i + 1) (t.set i (.cells x.1 .ro [] 0))
def heapOf (os : List (List AV × BI)) : AHeap := ⟨htOf os 0 .e, os.length, 0⟩
theorem htOf_get : ∀ (l : List (List AV × BI)) (i : Nat) (t : HT) (b : Nat), (htOf l i t).get b = if i ≤ b then (match l[b - i]? with
    | some x => some (.cells x.1 .ro [] 0)
    | none => t.get b) else t.get b
  | [], i, t, b => by simp [htOf]
  | x :: l, i, t, b => by
    rw [htOf, htOf_get l (i + 1)]
    have hs : (t.set i (.cells x.1 .ro [] 0)).get b = if b = i then some (.cells x.1 .ro [] 0) else t.get b := HT.get_setF _ _ _ _ (Nat.le_refl _) _
    by_cases h : i ≤ b
    · rw [if_pos h]
      by_cases e : b = i
      · subst e
        rw [if_neg (by omega), hs, if_pos rfl]; simp
      · rw [if_pos (by omega)]
        have : b - i = (b - (i + 1)) + 1 := by omega
        rw [this, List.getElem?_cons_succ, hs, if_neg e]
    · rw [if_neg (by omega), if_neg h, hs, if_neg (by omega)]
theorem heapOf_get (os : List (List AV × BI)) (b : Nat) (x : List AV × BI) (h : os[b]? = some x) : (heapOf os).get b = some (.cells x.1 .ro [] 0) := by
  show (htOf os 0 .e).get b = _
  rw [htOf_get]; simp [h]
/-- What an object that is only read says of the world. -/
structure RoOk (m : Mp) (w : World) (x : List AV × BI) : Prop where
  own : x.2.own = false
  cells : ∃ arr T fz, w.heap[x.2.blk]? = some (.cells arr T fz) ∧ CellsAt m x.2.base x.1 arr
theorem hr_heapOf {P : Program} (hg : P.globals.size = 0) {w : World} {os : List (List AV × BI)} (h : ∀ x ∈ os, RoOk (mpOf os) w x) : HR P (mpOf os) (heapOf os) w := by
  have key : ∀ b q, mpOf os b = some q → ∃ x, os[b]? = some x ∧ x.2 = q := by
    intro b q hb
    unfold mpOf at hb
    cases e : os[b]? with
    | none => rw [e] at hb; cases hb
    | some x => rw [e] at hb; exact ⟨x, rfl, by simpa using hb⟩
  refine ⟨fun b q hb => ?_, fun b c qb qc ob oc hb hc hne hgb hgc hown => ?_, fun g hgg => ?_, fun b q o hb hgo p hp => ?_⟩
  · obtain ⟨x, hx, rfl⟩ := key b q hb
    obtain ⟨ho, arr, T, fz, hw, hc⟩ := h x (List.mem_of_getElem? hx)
    refine ⟨(List.getElem?_eq_some_iff.1 hx).1, (Array.getElem?_eq_some_iff.1 hw).1, _, heapOf_get os b x hx, .cells _ _ _ _ arr T fz hw hc (fun e => by cases e)⟩
  · obtain ⟨x, hx, rfl⟩ := key b qb hb
    rw [heapOf_get os b x hx] at hgb
    injection hgb with hgb; subst hgb
    exact hown.elim
  · omega
  · obtain ⟨x, hx, rfl⟩ := key b q hb
    rw [heapOf_get os b x hx] at hgo
    injection hgo with hgo; subst hgo
    simp [AObj.prevs] at hp
/-- What the second machine knows of such a heap. -/
def cxOf (os : List (List AV × BI)) : Cx := ⟨fun _ => none, fun _ => 0, [], fun _ => none, fun _ => True, heapOf os⟩
theorem prel_cxOf (os : List (List AV × BI)) : PRel (cxOf os) .empty := by
  refine ⟨rfl, fun b q h => ?_, fun b cs ez h => ?_, fun b es cl h => ?_, fun r v x ez h _ => ?_, fun B o h => ?_, fun B b h => ?_, fun B r h => ?_, fun B h => trivial, Nat.zero_le _⟩
  · cases h
  · have h' : PObj.dead = .cells cs ez := h; cases h'
  · have h' : PObj.dead = .map es cl := h; cases h'
  · have h' : Root.gone = .live v x ez := h; cases h'
  · cases h
  · cases h
  · cases h
theorem noFr_cxOf (os : List (List AV × BI)) : NoFr (cxOf os) := fun B i h => by cases h
/-- THE JOIN: what the second machine answers, the model's call returns; old blocks stay as they were. -/
theorem join {P : Program} {pf : Nat → Option PFunc} {fns : Nat → Option AFunc} (hf : FnsOk P fns) (hpf : ∀ f F, pf f = some F → fns f = some F.era) (hmix : P.follows .mixedOrders = true) (hg : P.globals.size = 0)
    {os : List (List AV × BI)} {w : World} (hos : ∀ x ∈ os, RoOk (mpOf os) w x) {f : Nat} {pas : List PV} {aas : List AV} {cargs : Array Value} (hp : VRelL (cxOf os) pas aas) (hv : VRL (mpOf os) aas cargs.toList)
    {b : Bool} {σ : PH} (e : PC pf f pas .empty = some (.b b, σ)) : Calls P f cargs w fun e w' => e = .returned (.bool b) ∧ Below w.heap.size w w' := by
  obtain ⟨n, hn⟩ := PC_inv e
  obtain ⟨a, X', ha, _, _, _, hva⟩ := prun_rel hpf n hn (prel_cxOf os) (noFr_cxOf os) hp
  cases hva
  obtain ⟨_, hc⟩ := acall_sound hf hmix n f aas (heapOf os) _ _ ha
  refine (hc _ w cargs (hr_heapOf hg hos) hv).mono fun e w' ⟨cv, m', he', hact⟩ => ?_
  have hvr := hact.vr
  cases hvr
  refine ⟨he', hact.chg.os, hact.chg.tape, hact.chg.output, hact.chg.size, fun k hk => hact.chg.same k hk fun c q hq hown => ?_⟩
  unfold mpOf at hq
  cases hx : os[c]? with
  | none => rw [hx] at hq; cases hq
  | some x =>
    rw [hx] at hq
    have : x.2 = q := by simpa using hq
    subst this
    rw [(hos x (List.mem_of_getElem? hx)).own] at hown
    cases hown
theorem clo_b_inv {k : Nat} {σ σ' : PH} {v : PV} {b : Bool} (h : clo k σ v = some (.b b, σ')) : v = .b b := by
  cases k with
  | zero => cases h
  | succ k =>
    unfold clo at h
    split at h
    all_goals (try (repeat' split at h)) <;> first | (injection h with h; injection h with h1 h2; first | exact h1 | (cases h1; done) | (cases h1; rfl)) | (cases h; try rfl)
/-- A function that answers a bool: what it gave is what it had. -/
theorem iso_bool {call : PCall} {f : Nat} {as : List PV} {b : Bool} (e : iso call f as = some (.b b)) : ∃ σ, call f as .empty = some (.b b, σ) := by
  unfold iso at e
  split at e
  · rename_i v σ h
    split at e
    · rename_i y σ' h2
      injection e with e; subst e
      refine ⟨σ, ?_⟩
      rw [h]
      have : v = .b b := by
        unfold giv at h2
        split at h2
        · split at h2 <;> cases h2
        · unfold giv1 at h2
          split at h2
          all_goals first | exact clo_b_inv h2 | ((repeat' split at h2) <;> first | (injection h2 with h2; injection h2 with h3 h4; cases h3) | cases h2)
      rw [this]
    · cases e
  · cases e
end Go.Av
