/- The second machine's memory: what stands where, and its steps. -/
import Derived.Test.YtgnpkjfaekimcaaDoorAvPR
import Derived.Test.YtgnpkjfaekimcaaDoorAvMem
set_option linter.unusedVariables false
set_option linter.unusedSimpArgs false
set_option linter.unusedSectionVars false
namespace Go.Av
variable {X X' Y : Cx} {σ σ' : PH} {v : PV} {a : AV} {l : List PV} {r : List AV} {h h' : AHeap}

def Part (cc : List AV) (off : Nat) (acs : List AV) : Prop := off ≤ cc.length ∧ sub cc off acs.length = some acs
def ObjR (X : Cx) (σ : PH) (b : Nat) (cs : List PV) (ez : Nat) : Prop :=
  ∃ B off acs cc prev, X.ob b = some (B, off) ∧ X.O B = some (.ob b) ∧ B < X.h.n ∧ X.G B ∧ X.h.get B = some (.cells cc .rw prev ez) ∧ Part cc off acs ∧ VRelL X cs acs ∧
    (∀ q ∈ prev, q < X.h.n ∧ X.O q = some (.ob b) ∧ q ≠ B) ∧ (σ.lim ≤ b → X.h.lim ≤ B ∧ ∀ q ∈ prev, X.h.lim ≤ q)
inductive MRel (X : Cx) : List (PV × PV × Nat) → List (AV × AV × Nat) → Prop
  | nil : MRel X [] []
  | cons (k v : PV) (ak av : AV) (b : Nat) (l : List (PV × PV × Nat)) (r : List (AV × AV × Nat)) (hk : VRel X k ak) (hv : VRel X v av) (h : MRel X l r) : MRel X ((k, v, b) :: l) ((ak, av, b) :: r)
def MapR (X : Cx) (σ : PH) (b : Nat) (es : List (PV × PV × Nat)) (cl : Nat) : Prop :=
  ∃ B aes, X.ob b = some (B, 0) ∧ X.O B = some (.ob b) ∧ B < X.h.n ∧ X.h.get B = some (.map aes cl) ∧ MRel X es aes ∧ (σ.lim ≤ b → X.h.lim ≤ B)
def RootR (X : Cx) (σ : PH) (r ez : Nat) : Prop :=
  ∃ cc prev, X.h.get (X.rb r) = some (.cells cc .rw prev ez) ∧ X.O (X.rb r) = some (.rt r) ∧ X.rb r < X.h.n ∧ X.G (X.rb r) ∧
    (∀ q ∈ prev, q < X.h.n ∧ X.O q = some (.rt r) ∧ q ≠ X.rb r) ∧ (σ.rlim ≤ r → X.h.lim ≤ X.rb r ∧ ∀ q ∈ prev, X.h.lim ≤ q)
structure PRel (X : Cx) (σ : PH) : Prop where
  rt : X.rt = σ.rt
  dom : ∀ b q, X.ob b = some q → b < σ.ob.length
  obj : ∀ b cs ez, σ.get b = .cells cs ez → ObjR X σ b cs ez
  map : ∀ b es cl, σ.get b = .map es cl → MapR X σ b es cl
  root : ∀ r v x ez, getR σ.rt r = .live v x ez → 0 < x → RootR X σ r ez
  own : ∀ B o, X.O B = some o → B < X.h.n
  ownb : ∀ B b, X.O B = some (.ob b) → b < σ.ob.length
  ownr : ∀ B r, X.O B = some (.rt r) → r < σ.rt.length
  newG : ∀ B, X.h.n ≤ B → X.G B
  lim : X.h.lim ≤ X.h.n

theorem MRel.tr (k : Tr X X') : ∀ {l : List (PV × PV × Nat)} {r : List (AV × AV × Nat)}, MRel X l r → MRel X' l r
  | _, _, .nil => .nil
  | _, _, .cons _ _ _ _ b _ _ hk hv h => .cons _ _ _ _ b _ _ (hk.tr k) (hv.tr k) (h.tr k)
theorem PRel.rb_lt (k : PRel X σ) : ∀ r v x ez, getR X.rt r = .live v x ez → 0 < x → X.rb r < X.h.n := fun r v x ez h hx => by
  rw [k.rt] at h
  obtain ⟨_, _, _, _, h1, _⟩ := k.root r v x ez h hx
  exact h1
theorem PRel.trans (k : PRel X σ) (k1 : Tr X Y) (k2 : Tr Y X') : Tr X X' := k1.trans k2 k.rb_lt

/-! ## Lists of objects, of roots -/
theorem getO_append (l : List PObj) (o : PObj) (b : Nat) : getO (l ++ [o]) b = if b = l.length then o else getO l b := by
  induction l generalizing b with
  | nil => cases b with
    | zero => rfl
    | succ b => simp [getO]
  | cons x l ih => cases b with
    | zero => simp [getO]
    | succ b => simp [getO, ih]
theorem getO_setO (l : List PObj) (i b : Nat) (o : PObj) (hb : b < l.length) : getO (setO l i o) b = if b = i then o else getO l b := by
  induction l generalizing i b with
  | nil => simp at hb
  | cons x l ih => cases b with
    | zero => cases i <;> simp [getO, setO]
    | succ b => cases i with
      | zero => simp [getO, setO]
      | succ i => simp [getO, setO, ih i b (by simpa using hb)]
theorem getO_ge (l : List PObj) (b : Nat) (hb : l.length ≤ b) : getO l b = .dead := by
  induction l generalizing b with
  | nil => rfl
  | cons x l ih => cases b with
    | zero => simp at hb
    | succ b => simpa [getO] using ih b (by simpa using hb)
theorem setO_length (l : List PObj) (i : Nat) (o : PObj) : (setO l i o).length = l.length := by
  induction l generalizing i with
  | nil => rfl
  | cons x l ih => cases i <;> simp [setO, ih]
theorem getR_append (l : List Root) (o : Root) (b : Nat) : getR (l ++ [o]) b = if b = l.length then o else getR l b := by
  induction l generalizing b with
  | nil => cases b with
    | zero => rfl
    | succ b => simp [getR]
  | cons x l ih => cases b with
    | zero => simp [getR]
    | succ b => simp [getR, ih]
theorem getR_setR (l : List Root) (i b : Nat) (o : Root) (hb : b < l.length) : getR (setR l i o) b = if b = i then o else getR l b := by
  induction l generalizing i b with
  | nil => simp at hb
  | cons x l ih => cases b with
    | zero => cases i <;> simp [getR, setR]
    | succ b => cases i with
      | zero => simp [getR, setR]
      | succ i => simp [getR, setR, ih i b (by simpa using hb)]
theorem getR_ge (l : List Root) (b : Nat) (hb : l.length ≤ b) : getR l b = .gone := by
  induction l generalizing b with
  | nil => rfl
  | cons x l ih => cases b with
    | zero => simp at hb
    | succ b => simpa [getR] using ih b (by simpa using hb)
theorem setR_length (l : List Root) (i : Nat) (o : Root) : (setR l i o).length = l.length := by
  induction l generalizing i with
  | nil => rfl
  | cons x l ih => cases i <;> simp [setR, ih]
theorem getR_setR' (l : List Root) (i b : Nat) (o : Root) (hi : i < l.length) : getR (setR l i o) b = if b = i then o else getR l b := by
  by_cases hb : b < l.length
  · exact getR_setR l i b o hb
  · rw [getR_ge _ _ (by rw [setR_length]; omega), getR_ge _ _ (by omega), if_neg (by omega)]
theorem getO_lt {l : List PObj} {b : Nat} {o : PObj} (h : getO l b = o) (ho : o ≠ .dead) : b < l.length := by
  apply Classical.byContradiction
  intro hn
  rw [getO_ge _ _ (by omega)] at h
  exact ho h.symm

/-! ## Steps -/
/-- Nothing of the lists, but what belongs to whom, and the memory where it belongs to somebody. -/
theorem Tr.of (ho : ∀ b q, X.ob b = some q → X'.ob b = some q) (hf : ∀ B, X.O B = none → B < X.h.n → X'.O B = none ∧ X'.h.get B = X.h.get B) (hn : X.h.n ≤ X'.h.n) (hG : X'.G = X.G) (hl : X'.h.lim = X.h.lim)
    (hrt : X'.rt = X.rt) (hrb : ∀ r v x ez, getR X.rt r = .live v x ez → 0 < x → X'.rb r = X.rb r ∧ X'.h.get (X.rb r) = X.h.get (X.rb r)) : Tr X X' := by
  refine Tr.mk' ho hf hn hG hl (by rw [hrt]; exact Nat.le_refl _) (fun r hr => ?_)
  unfold RTr
  cases e : getR X.rt r with
  | gone => rw [hrt]; exact e
  | shut v => rw [hrt]; exact e
  | live v x ez => exact .inl ⟨by rw [hrt]; exact e, fun hx => hrb r v x ez e hx⟩

/-- A root that is appended to no more. -/
def Cx.shut (X : Cx) (r : Nat) (y : Root) : Cx := ⟨X.ob, X.rb, setR X.rt r y, fun B => match X.O B with
  | some (.rt r') => if r' = r then none else some (.rt r')
  | o => o, X.G, X.h⟩
open Classical in
theorem Cx.shut_O (X : Cx) (r : Nat) (y : Root) (B : Nat) : (X.shut r y).O B = if X.O B = some (.rt r) then none else X.O B := by
  unfold Cx.shut
  cases e : X.O B with
  | none => simp [e]
  | some o => cases o with
    | rt r' => by_cases h : r' = r <;> simp [e, h]
    | ob b => simp [e]
    | fr i => simp [e]
open Classical in
theorem Tr.shut {r v x ez : Nat} {y : Root} (hp : PRel X σ) (hr : getR X.rt r = .live v x ez) (hy : y = .shut v ∨ y = .gone) : Tr X (X.shut r y) := by
  have hlt := getR_lt hr (by simp)
  refine Tr.mk' (fun _ _ h => h) (fun B h _ => ⟨by rw [Cx.shut_O, h]; rfl, rfl⟩) (Nat.le_refl _) rfl rfl (by simp [Cx.shut, setR_length]) (fun q hq => ?_)
  have hg : getR (X.shut r y).rt q = if q = r then y else getR X.rt q := getR_setR' _ _ _ _ hlt
  unfold RTr
  by_cases e : q = r
  · subst e
    rw [if_pos rfl] at hg
    rw [hr]; simp only
    rcases hy with rfl | rfl
    · refine .inr (.inl ⟨hg, fun hx => ?_⟩)
      obtain ⟨_, _, _, h1, _, h2, _⟩ := hp.root q v x ez (by rw [← hp.rt]; exact hr) hx
      exact ⟨rfl, by rw [Cx.shut_O, if_pos h1], h2⟩
    · refine .inr (.inr ?_); rw [hg]; trivial
  · rw [if_neg e] at hg
    cases e' : getR X.rt q with
    | gone => rw [hg]; exact e'
    | shut v => rw [hg]; exact e'
    | live v x ez => exact .inl ⟨by rw [hg]; exact e', fun _ => ⟨rfl, rfl⟩⟩
open Classical in
theorem PRel.shut {r v x ez : Nat} {y : Root} (hp : PRel X σ) (hr : getR X.rt r = .live v x ez) (hy : y = .shut v ∨ y = .gone) : PRel (X.shut r y) (σ.setRoot r y) := by
  have hlt := getR_lt hr (by simp)
  have k := Tr.shut hp hr hy
  refine ⟨by simp [Cx.shut, PH.setRoot, hp.rt], hp.dom, fun b cs ez h => ?_, fun b es cl h => ?_, fun q v' x' ez' h hx => ?_, fun B o h => ?_, fun C b h => ?_, fun C q h => ?_, hp.newG, hp.lim⟩
  · obtain ⟨B, off, acs, cc, prev, h1, h2, h3, h4, h5, h6, h7, h8, h9⟩ := hp.obj b cs ez h
    refine ⟨B, off, acs, cc, prev, h1, by rw [Cx.shut_O, h2]; simp, h3, h4, h5, h6, h7.tr k, fun q hq => ?_, h9⟩
    obtain ⟨a1, a2, a3⟩ := h8 q hq
    exact ⟨a1, by rw [Cx.shut_O, a2]; simp, a3⟩
  · obtain ⟨B, aes, h1, h2, h3, h4, h5, h6⟩ := hp.map b es cl h
    exact ⟨B, aes, h1, by rw [Cx.shut_O, h2]; simp, h3, h4, h5.tr k, h6⟩
  · have hg : getR (σ.setRoot r y).rt q = if q = r then y else getR σ.rt q := getR_setR' _ _ _ _ (by rw [← hp.rt]; exact hlt)
    have hqr : q ≠ r := by
      rintro rfl
      rw [hg, if_pos rfl] at h
      rcases hy with rfl | rfl <;> cases h
    rw [hg, if_neg hqr] at h
    obtain ⟨cc, prev, h1, h2, h3, h4, h5, h6⟩ := hp.root q v' x' ez' h hx
    refine ⟨cc, prev, h1, by show (X.shut r y).O (X.rb q) = _; rw [Cx.shut_O, h2]; simp [hqr], h3, h4, fun p hpp => ?_, h6⟩
    obtain ⟨a1, a2, a3⟩ := h5 p hpp
    exact ⟨a1, by rw [Cx.shut_O, a2]; simp [hqr], a3⟩
  · rw [Cx.shut_O] at h
    split at h
    · cases h
    · exact hp.own B o h
  · rw [Cx.shut_O] at h
    split at h
    · cases h
    · exact hp.ownb C b h
  · rw [Cx.shut_O] at h
    split at h
    · cases h
    · have := hp.ownr C q h; simpa [PH.setRoot, setR_length] using this

theorem ObjR.keep {b ez : Nat} {cs : List PV} (k : Tr X X') (hl : σ'.lim = σ.lim) (hO : ∀ B, X.O B = some (.ob b) → X'.O B = some (.ob b) ∧ X'.h.get B = X.h.get B) (o : ObjR X σ b cs ez) : ObjR X' σ' b cs ez := by
  obtain ⟨B, off, acs, cc, prev, h1, h2, h3, h4, h5, h6, h7, h8, h9⟩ := o
  obtain ⟨a1, a2⟩ := hO B h2
  refine ⟨B, off, acs, cc, prev, k.ob _ _ h1, a1, Nat.lt_of_lt_of_le h3 k.n, by rw [k.G]; exact h4, by rw [a2]; exact h5, h6, h7.tr k, fun q hq => ?_, by rw [hl, k.lim]; exact h9⟩
  obtain ⟨b1, b2, b3⟩ := h8 q hq
  exact ⟨Nat.lt_of_lt_of_le b1 k.n, (hO q b2).1, b3⟩
theorem MapR.keep {b cl : Nat} {es : List (PV × PV × Nat)} (k : Tr X X') (hl : σ'.lim = σ.lim) (hO : ∀ B, X.O B = some (.ob b) → X'.O B = some (.ob b) ∧ X'.h.get B = X.h.get B) (o : MapR X σ b es cl) : MapR X' σ' b es cl := by
  obtain ⟨B, aes, h1, h2, h3, h4, h5, h6⟩ := o
  obtain ⟨a1, a2⟩ := hO B h2
  exact ⟨B, aes, k.ob _ _ h1, a1, Nat.lt_of_lt_of_le h3 k.n, by rw [a2]; exact h4, h5.tr k, by rw [hl, k.lim]; exact h6⟩
theorem RootR.keep {r ez : Nat} (k : Tr X X') (hl : σ'.rlim = σ.rlim) (hb : X'.rb r = X.rb r) (hO : ∀ B, X.O B = some (.rt r) → X'.O B = some (.rt r) ∧ X'.h.get B = X.h.get B) (o : RootR X σ r ez) : RootR X' σ' r ez := by
  obtain ⟨cc, prev, h1, h2, h3, h4, h5, h6⟩ := o
  obtain ⟨a1, a2⟩ := hO _ h2
  refine ⟨cc, prev, by rw [hb, a2]; exact h1, by rw [hb]; exact a1, by rw [hb]; exact Nat.lt_of_lt_of_le h3 k.n, by rw [hb, k.G]; exact h4, fun q hq => ?_, by rw [hl, k.lim, hb]; exact h6⟩
  obtain ⟨b1, b2, b3⟩ := h5 q hq
  exact ⟨Nat.lt_of_lt_of_le b1 k.n, (hO q b2).1, by rw [hb]; exact b3⟩

/-- A new block, that belongs to o. -/
def Cx.more (X : Cx) (o : Option Owner) (a : AObj) : Cx := ⟨X.ob, X.rb, X.rt, fun B => if B = X.h.n then o else X.O B, X.G, X.h.push a⟩
theorem PRel.fresh_none (hp : PRel X σ) {B : Nat} (hB : X.h.n ≤ B) : X.O B = none := by
  cases e : X.O B with
  | none => rfl
  | some o => have := hp.own B o e; omega
theorem Tr.more (hp : PRel X σ) (o : Option Owner) (a : AObj) : Tr X (X.more o a) := by
  refine .of (fun _ _ h => h) (fun B h hB => ⟨?_, ?_⟩) (by simp [Cx.more]) rfl rfl rfl fun r v x ez hr hx => ⟨rfl, ?_⟩
  · show (if B = X.h.n then o else X.O B) = none
    rw [if_neg (by omega)]; exact h
  · show (X.h.push a).get B = _
    rw [AHeap.get_push, if_neg (by omega)]
  · show (X.h.push a).get _ = _
    have := hp.rb_lt r v x ez hr hx
    rw [AHeap.get_push, if_neg (by omega)]
theorem more_keep (hp : PRel X σ) {o o' : Option Owner} (a : AObj) {B : Nat} (h : X.O B = o') (ho : o' ≠ none) : (X.more o a).O B = o' ∧ (X.more o a).h.get B = X.h.get B := by
  have hB : B < X.h.n := by
    apply Classical.byContradiction
    intro hn
    rw [hp.fresh_none (by omega)] at h
    exact ho h.symm
  refine ⟨?_, ?_⟩
  · show (if B = X.h.n then o else X.O B) = _
    rw [if_neg (by omega)]; exact h
  · show (X.h.push a).get B = _
    rw [AHeap.get_push, if_neg (by omega)]
theorem PRel.more (hp : PRel X σ) (o : Option Owner) (a : AObj) (hno : o = none ∨ ∃ i, o = some (.fr i)) : PRel (X.more o a) σ := by
  have k := Tr.more hp o a
  refine ⟨hp.rt, hp.dom, fun b cs ez h => (hp.obj b cs ez h).keep k rfl (fun B hB => more_keep hp a hB (by simp)), fun b es cl h => (hp.map b es cl h).keep k rfl (fun B hB => more_keep hp a hB (by simp)),
    fun r v x ez h hx => (hp.root r v x ez h hx).keep k rfl rfl (fun B hB => more_keep hp a hB (by simp)), fun B o' h => ?_, fun C b h => ?_, fun C r h => ?_, fun B hB => hp.newG B (by simp [Cx.more] at hB; omega), by have := hp.lim; simp [Cx.more]; omega⟩
  by_cases e : B = X.h.n
  · simp [Cx.more]; omega
  · have : X.O B = some o' := by
      have h' : (if B = X.h.n then o else X.O B) = some o' := h
      rwa [if_neg e] at h'
    have := hp.own B o' this
    simp [Cx.more]; omega
  all_goals
    have h' : (if C = X.h.n then o else X.O C) = _ := h
    split at h'
    · rcases hno with e | ⟨i, e⟩ <;> rw [e] at h' <;> cases h'
    · first | exact hp.ownb C _ h' | exact hp.ownr C _ h'

/-- What was a call's result belongs to somebody. -/
def relab (O : Nat → Option Owner) (i : Nat) (o : Owner) : Nat → Option Owner := fun C => match O C with
  | some (.fr j) => if j = i then some o else some (.fr j)
  | x => x
theorem relab_ne {O : Nat → Option Owner} {i C : Nat} {o : Owner} {o' : Option Owner} (h : O C = o') (ho : o' ≠ some (.fr i)) : relab O i o C = o' := by
  unfold relab
  rw [h]
  cases o' with
  | none => rfl
  | some o' => cases o' with
    | fr j => simp only; rw [if_neg (by rintro rfl; exact ho rfl)]
    | ob b => rfl
    | rt r => rfl
theorem relab_eq {O : Nat → Option Owner} {i C : Nat} {o : Owner} (h : O C = some (.fr i)) : relab O i o C = some o := by
  unfold relab; rw [h]; simp
theorem relab_inv {O : Nat → Option Owner} {i C : Nat} {o o' : Owner} (h : relab O i o C = some o') : (O C = some (.fr i) ∧ o' = o) ∨ O C = some o' := by
  unfold relab at h
  cases e : O C with
  | none => rw [e] at h; cases h
  | some y =>
    rw [e] at h
    cases y with
    | fr j =>
      simp only at h
      by_cases hj : j = i
      · subst hj; rw [if_pos rfl] at h; injection h with h; exact .inl ⟨rfl, h.symm⟩
      · rw [if_neg hj] at h; exact .inr h
    | ob b => exact .inr h
    | rt r => exact .inr h
/-- One more object, over a call's result. -/
def Cx.named (X : Cx) (i n B off : Nat) : Cx := ⟨fun c => if c = n then some (B, off) else X.ob c, X.rb, X.rt, relab X.O i (.ob n), X.G, X.h⟩
theorem Tr.named (hp : PRel X σ) (i B off : Nat) : Tr X (X.named i σ.ob.length B off) := by
  refine .of (fun b q h => ?_) (fun C h _ => ⟨relab_ne h (by simp), rfl⟩) (Nat.le_refl _) rfl rfl rfl fun r v x ez hr hx => ⟨rfl, rfl⟩
  have := hp.dom b q h
  show (if b = σ.ob.length then some (B, off) else X.ob b) = _
  rw [if_neg (by omega)]; exact h
theorem PRel.named (hp : PRel X σ) {B off i ez : Nat} {cs : List PV} {acs cc : List AV} {prev : List Nat} (hB : X.O B = some (.fr i)) (hg : X.h.get B = some (.cells cc .rw prev ez)) (hl : X.h.lim ≤ B) (hG : X.G B)
    (hpv : ∀ q ∈ prev, q < X.h.n ∧ X.O q = some (.fr i) ∧ q ≠ B ∧ X.h.lim ≤ q)
    (hs : Part cc off acs) (hv : VRelL X cs acs) : PRel (X.named i σ.ob.length B off) (σ.push (.cells cs ez)) := by
  have k : Tr X (X.named i σ.ob.length B off) := .named hp i B off
  have keepO : ∀ {C : Nat} {o : Owner}, X.O C = some o → o ≠ .fr i → (X.named i σ.ob.length B off).O C = some o ∧ (X.named i σ.ob.length B off).h.get C = X.h.get C :=
    fun h ho => ⟨relab_ne h (by simpa using ho), rfl⟩
  have hget : ∀ b, (σ.push (.cells cs ez)).get b = if b = σ.ob.length then .cells cs ez else σ.get b := fun b => getO_append _ _ _
  refine ⟨hp.rt, fun b q h => ?_, fun b cs' ez2 h => ?_, fun b es cl h => ?_, fun r v x ez2 h hx => (hp.root r v x ez2 h hx).keep k rfl rfl (fun C hC => keepO hC (by simp)), fun C o h => ?_, fun C b h => ?_, fun C r h => ?_, hp.newG, hp.lim⟩
  · have h' : (if b = σ.ob.length then some (B, off) else X.ob b) = some q := h
    split at h'
    · simp [PH.push]; omega
    · have := hp.dom b q h'; simp [PH.push]; omega
  · rw [hget] at h
    split at h
    · rename_i e
      injection h with e1 e2; subst e1; subst e2; subst e
      refine ⟨B, off, acs, cc, prev, ?_, relab_eq hB, hp.own B _ hB, hG, hg, hs, hv.tr k, fun q hq => ?_, fun _ => ⟨hl, fun q hq => (hpv q hq).2.2.2⟩⟩
      · show (if _ then _ else _) = _; rw [if_pos rfl]
      · obtain ⟨a1, a2, a3, _⟩ := hpv q hq
        exact ⟨a1, relab_eq a2, a3⟩
    · exact (hp.obj b cs' ez2 h).keep k rfl (fun C hC => keepO hC (by simp))
  · rw [hget] at h
    split at h
    · cases h
    · exact (hp.map b es cl h).keep k rfl (fun C hC => keepO hC (by simp))
  · rcases relab_inv h with ⟨h, _⟩ | h <;> exact hp.own C _ h
  · rcases relab_inv h with ⟨h, e⟩ | h
    · injection e with e; subst e; simp [PH.push]
    · have := hp.ownb C b h; simp [PH.push]; omega
  · rcases relab_inv h with ⟨h, e⟩ | h
    · cases e
    · exact hp.ownr C r h
theorem PRel.namedM (hp : PRel X σ) {B i : Nat} (hB : X.O B = some (.fr i)) (hg : X.h.get B = some (.map [] 0)) (hl : X.h.lim ≤ B) : PRel (X.named i σ.ob.length B 0) (σ.push (.map [] 0)) := by
  have k : Tr X (X.named i σ.ob.length B 0) := .named hp i B 0
  have keepO : ∀ {C : Nat} {o : Owner}, X.O C = some o → o ≠ .fr i → (X.named i σ.ob.length B 0).O C = some o ∧ (X.named i σ.ob.length B 0).h.get C = X.h.get C :=
    fun h ho => ⟨relab_ne h (by simpa using ho), rfl⟩
  have hget : ∀ b, (σ.push (.map [] 0)).get b = if b = σ.ob.length then .map [] 0 else σ.get b := fun b => getO_append _ _ _
  refine ⟨hp.rt, fun b q h => ?_, fun b cs' ez2 h => ?_, fun b es cl h => ?_, fun r v x ez2 h hx => (hp.root r v x ez2 h hx).keep k rfl rfl (fun C hC => keepO hC (by simp)), fun C o h => ?_, fun C b h => ?_, fun C r h => ?_, hp.newG, hp.lim⟩
  · have h' : (if b = σ.ob.length then some (B, 0) else X.ob b) = some q := h
    split at h'
    · simp [PH.push]; omega
    · have := hp.dom b q h'; simp [PH.push]; omega
  · rw [hget] at h
    split at h
    · cases h
    · exact (hp.obj b cs' ez2 h).keep k rfl (fun C hC => keepO hC (by simp))
  · rw [hget] at h
    split at h
    · rename_i e
      injection h with e1 e2; subst e1; subst e2; subst e
      refine ⟨B, [], ?_, relab_eq hB, hp.own B _ hB, hg, .nil, fun _ => hl⟩
      show (if _ then _ else _) = _; rw [if_pos rfl]
    · exact (hp.map b es cl h).keep k rfl (fun C hC => keepO hC (by simp))
  · rcases relab_inv h with ⟨h, _⟩ | h <;> exact hp.own C _ h
  · rcases relab_inv h with ⟨h, e⟩ | h
    · injection e with e; subst e; simp [PH.push]
    · have := hp.ownb C b h; simp [PH.push]; omega
  · rcases relab_inv h with ⟨h, e⟩ | h
    · cases e
    · exact hp.ownr C r h

/-- A call's result may be appended to. -/
def Cx.rooted (X : Cx) (i B : Nat) (y : Root) : Cx := ⟨X.ob, fun r => if r = X.rt.length then B else X.rb r, X.rt ++ [y], relab X.O i (.rt X.rt.length), X.G, X.h⟩
theorem Tr.newRoot {rb : Nat → Nat} {O : Nat → Option Owner} {y : Root} (hrb : ∀ r, r < X.rt.length → rb r = X.rb r) (hO : ∀ C, X.O C = none → O C = none) : Tr X ⟨X.ob, rb, X.rt ++ [y], O, X.G, X.h⟩ := by
  refine Tr.mk' (fun _ _ h => h) (fun C h _ => ⟨hO C h, rfl⟩) (Nat.le_refl _) rfl rfl (by simp) (fun r hr => ?_)
  have hg : getR (X.rt ++ [y]) r = getR X.rt r := by rw [getR_append, if_neg (by omega)]
  unfold RTr
  cases e : getR X.rt r with
  | gone => exact hg.trans e
  | shut v => exact hg.trans e
  | live v x ez => exact .inl ⟨hg.trans e, fun _ => ⟨hrb r hr, rfl⟩⟩
theorem PRel.rooted (hp : PRel X σ) {B i v x ez : Nat} {cc : List AV} {prev : List Nat} (hB : X.O B = some (.fr i)) (hg : X.h.get B = some (.cells cc .rw prev ez)) (hl : X.h.lim ≤ B) (hG : X.G B)
    (hpv : ∀ q ∈ prev, q < X.h.n ∧ X.O q = some (.fr i) ∧ q ≠ B ∧ X.h.lim ≤ q) :
    Tr X (X.rooted i B (.live v x ez)) ∧ PRel (X.rooted i B (.live v x ez)) (σ.newRoot (.live v x ez)) := by
  have hlen : X.rt.length = σ.rt.length := by rw [hp.rt]
  have k : Tr X (X.rooted i B (.live v x ez)) := .newRoot (fun r hr => by show (if _ then _ else _) = _; rw [if_neg (by omega)]) (fun C h => relab_ne h (by simp))
  have keepO : ∀ {C : Nat} {o : Owner}, X.O C = some o → o ≠ .fr i → (X.rooted i B (.live v x ez)).O C = some o ∧ (X.rooted i B (.live v x ez)).h.get C = X.h.get C :=
    fun h ho => ⟨relab_ne h (by simpa using ho), rfl⟩
  refine ⟨k, by simp [Cx.rooted, PH.newRoot, hp.rt], hp.dom, fun b cs' ez2 h => (hp.obj b cs' ez2 h).keep k rfl (fun C hC => keepO hC (by simp)), fun b es cl h => (hp.map b es cl h).keep k rfl (fun C hC => keepO hC (by simp)),
    fun r v' x' ez' h hx => ?_, fun C o h => ?_, fun C b h => ?_, fun C r h => ?_, hp.newG, hp.lim⟩
  · have hg' : getR (σ.newRoot (.live v x ez)).rt r = if r = σ.rt.length then .live v x ez else getR σ.rt r := getR_append _ _ _
    rw [hg'] at h
    split at h
    · rename_i e
      injection h with e1 e2 e3; subst e1; subst e2; subst e3; subst e
      have hrb : (X.rooted i B (.live v x ez)).rb σ.rt.length = B := by show (if _ then _ else _) = _; rw [if_pos hlen.symm]
      refine ⟨cc, prev, by rw [hrb]; exact hg, ?_, by rw [hrb]; exact hp.own B _ hB, by rw [hrb]; exact hG, fun q hq => ?_, fun _ => ⟨by rw [hrb]; exact hl, fun q hq => (hpv q hq).2.2.2⟩⟩
      · rw [hrb, ← hlen]; exact relab_eq hB
      · obtain ⟨a1, a2, a3, _⟩ := hpv q hq
        exact ⟨a1, by rw [← hlen]; exact relab_eq a2, by rw [hrb]; exact a3⟩
    · rename_i e
      have hrb : (X.rooted i B (.live v x ez)).rb r = X.rb r := by show (if _ then _ else _) = _; rw [if_neg (by rw [hlen]; exact e)]
      exact (hp.root r v' x' ez' h hx).keep k rfl hrb (fun C hC => keepO hC (by simp))
  · rcases relab_inv h with ⟨h, _⟩ | h <;> exact hp.own C _ h
  · rcases relab_inv h with ⟨h, e⟩ | h
    · cases e
    · exact hp.ownb C b h
  · rcases relab_inv h with ⟨h, e⟩ | h
    · injection e with e; subst e; simp [PH.newRoot, hlen]
    · have := hp.ownr C r h; simp [PH.newRoot]; omega
/-- An empty list may be appended to. -/
def Cx.root0 (X : Cx) (y : Root) : Cx := ⟨X.ob, X.rb, X.rt ++ [y], X.O, X.G, X.h⟩
theorem PRel.root0 (hp : PRel X σ) {v ez : Nat} : Tr X (X.root0 (.live v 0 ez)) ∧ PRel (X.root0 (.live v 0 ez)) (σ.newRoot (.live v 0 ez)) := by
  have k : Tr X (X.root0 (.live v 0 ez)) := .newRoot (fun _ _ => rfl) (fun _ h => h)
  refine ⟨k, by simp [Cx.root0, PH.newRoot, hp.rt], hp.dom, fun b cs' ez2 h => (hp.obj b cs' ez2 h).keep k rfl (fun C hC => ⟨hC, rfl⟩), fun b es cl h => (hp.map b es cl h).keep k rfl (fun C hC => ⟨hC, rfl⟩),
    fun r v' x' ez' h hx => ?_, hp.own, hp.ownb, fun C r h => by have := hp.ownr C r h; simp [PH.newRoot]; omega, hp.newG, hp.lim⟩
  have hg' : getR (σ.newRoot (.live v 0 ez)).rt r = if r = σ.rt.length then .live v 0 ez else getR σ.rt r := getR_append _ _ _
  rw [hg'] at h
  split at h
  · injection h with e1 e2 e3; omega
  · exact (hp.root r v' x' ez' h hx).keep k rfl rfl (fun C hC => ⟨hC, rfl⟩)

/-- What belongs to one belongs to nobody any more. -/
def Cx.drop (X : Cx) (d : Owner → Bool) : Cx := ⟨X.ob, X.rb, X.rt, fun B => match X.O B with
  | some o => if d o then none else some o
  | none => none, X.G, X.h⟩
theorem Cx.drop_some {d : Owner → Bool} {B : Nat} {o : Owner} (h : X.O B = some o) (hd : d o = false) : (X.drop d).O B = some o ∧ (X.drop d).h.get B = X.h.get B := by
  refine ⟨?_, rfl⟩
  simp [Cx.drop, h, hd]
theorem Cx.drop_inv {d : Owner → Bool} {B : Nat} {o : Owner} (h : (X.drop d).O B = some o) : X.O B = some o := by
  cases e : X.O B with
  | none => simp [Cx.drop, e] at h
  | some o' =>
    cases hd : d o' with
    | true => simp [Cx.drop, e, hd] at h
    | false => simpa [Cx.drop, e, hd] using h
theorem Tr.drop (d : Owner → Bool) : Tr X (X.drop d) :=
  .of (fun _ _ h => h) (fun B h _ => ⟨by simp [Cx.drop, h], rfl⟩) (Nat.le_refl _) rfl rfl rfl (fun _ _ _ _ _ _ => ⟨rfl, rfl⟩)
/-- An object is no more. -/
theorem PRel.kill (hp : PRel X σ) (b : Nat) : PRel (X.drop fun o => match o with | .ob c => decide (c = b) | _ => false) (σ.put b .dead) := by
  have k := Tr.drop (X := X) fun o => match o with | .ob c => decide (c = b) | _ => false
  have hget : ∀ c o, (σ.put b .dead).get c = o → o ≠ .dead → c ≠ b ∧ σ.get c = o := by
    intro c o h ho
    have hlt : c < σ.ob.length := by have := getO_lt h ho; simpa [PH.put, setO_length] using this
    have h' : getO (setO σ.ob b .dead) c = o := h
    rw [getO_setO _ _ _ _ hlt] at h'
    split at h'
    · exact absurd h'.symm ho
    · rename_i e; exact ⟨e, h'⟩
  refine ⟨hp.rt, fun c q h => by have := hp.dom c q h; simpa [PH.put, setO_length] using this, fun c cs ez h => ?_, fun c es cl h => ?_, fun r v x ez h hx => (hp.root r v x ez h hx).keep k rfl rfl (fun C hC => Cx.drop_some hC rfl), fun B o h => ?_, fun C c h => ?_, fun C c h => ?_, hp.newG, hp.lim⟩
  · obtain ⟨e, h'⟩ := hget c _ h (by simp)
    exact (hp.obj c cs ez h').keep k rfl (fun C hC => Cx.drop_some hC (by simp [e]))
  · obtain ⟨e, h'⟩ := hget c _ h (by simp)
    exact (hp.map c es cl h').keep k rfl (fun C hC => Cx.drop_some hC (by simp [e]))
  · cases e : X.O B with
    | none => simp [Cx.drop, e] at h
    | some o' => exact hp.own B o' e
  · cases e : X.O C with
    | none => simp [Cx.drop, e] at h
    | some o' =>
      have : o' = .ob c := by
        have := Cx.drop_inv h
        rw [e] at this; injection this
      subst this
      have := hp.ownb C c e; simpa [PH.put, setO_length] using this
  · cases e : X.O C with
    | none => simp [Cx.drop, e] at h
    | some o' =>
      have : o' = .rt c := by
        have := Cx.drop_inv h
        rw [e] at this; injection this
      subst this
      exact hp.ownr C c e
/-- A call's result that is left as it is. -/
theorem PRel.left (hp : PRel X σ) (i : Nat) : PRel (X.drop fun o => match o with | .fr c => decide (c = i) | _ => false) σ := by
  have k := Tr.drop (X := X) fun o => match o with | .fr c => decide (c = i) | _ => false
  refine ⟨hp.rt, hp.dom, fun c cs ez h => (hp.obj c cs ez h).keep k rfl (fun C hC => Cx.drop_some hC rfl), fun c es cl h => (hp.map c es cl h).keep k rfl (fun C hC => Cx.drop_some hC rfl),
    fun r v x ez h hx => (hp.root r v x ez h hx).keep k rfl rfl (fun C hC => Cx.drop_some hC rfl), fun B o h => ?_, fun C c h => ?_, fun C c h => ?_, hp.newG, hp.lim⟩
  cases e : X.O B with
  | none => simp [Cx.drop, e] at h
  | some o' => exact hp.own B o' e
  · cases e : X.O C with
    | none => simp [Cx.drop, e] at h
    | some o' =>
      have : o' = .ob c := by
        have := Cx.drop_inv h
        rw [e] at this; injection this
      subst this
      exact hp.ownb C c e
  · cases e : X.O C with
    | none => simp [Cx.drop, e] at h
    | some o' =>
      have : o' = .rt c := by
        have := Cx.drop_inv h
        rw [e] at this; injection this
      subst this
      exact hp.ownr C c e

/-- Its memory alone. -/
def Cx.withH (X : Cx) (h : AHeap) : Cx := ⟨X.ob, X.rb, X.rt, X.O, X.G, h⟩
/-- An object is written to: its block's older forms are no more. -/
theorem PRel.write (hp : PRel X σ) {b B off ez : Nat} {cs cs' : List PV} {acs' cc' : List AV} {prev : List Nat} {cc : List AV}
    (hb : σ.get b = .cells cs ez) (hob : X.ob b = some (B, off)) (hO : X.O B = some (.ob b)) (hg : X.h.get B = some (.cells cc .rw prev ez)) (hpv : ∀ q ∈ prev, X.O q = some (.ob b) ∧ q ≠ B)
    (hn : h'.n = X.h.n) (hl : h'.lim = X.h.lim) (hget : ∀ x, h'.get x = if x = B then some (.cells cc' .rw [] ez) else if x ∈ prev then some .dead else X.h.get x)
    (hG : X.G B) (hlim : σ.lim ≤ b → X.h.lim ≤ B) (hs : Part cc' off acs') (hv : VRelL X cs' acs') :
    Tr X (X.withH h') ∧ PRel (X.withH h') (σ.put b (.cells cs' ez)) := by
  have hne : ∀ {C : Nat} {o : Option Owner}, X.O C = o → o ≠ some (.ob b) → h'.get C = X.h.get C := by
    intro C o h ho
    rw [hget]
    have h1 : C ≠ B := by rintro rfl; rw [hO] at h; exact ho h.symm
    have h2 : C ∉ prev := fun hm => by have := (hpv C hm).1; rw [h] at this; exact ho this
    rw [if_neg h1, if_neg h2]
  have k : Tr X (X.withH h') := .of (fun _ _ h => h) (fun C h _ => ⟨h, hne h (by simp)⟩) (by show _ ≤ h'.n; omega) rfl hl rfl (fun r v x ez2 hr hx => ⟨rfl, by
    obtain ⟨_, _, _, h1, _⟩ := hp.root r v x ez2 (by rw [← hp.rt]; exact hr) hx
    exact hne h1 (by simp)⟩)
  have hlt : b < σ.ob.length := hp.dom b _ hob
  have hgt : ∀ c, c < σ.ob.length → (σ.put b (.cells cs' ez)).get c = if c = b then .cells cs' ez else σ.get c := fun c hc => getO_setO _ _ _ _ hc
  refine ⟨k, hp.rt, fun c q h => by have := hp.dom c q h; simpa [PH.put, setO_length] using this, fun c cs2 ez2 h => ?_, fun c es cl h => ?_,
    fun r v x ez2 h hx => (hp.root r v x ez2 h hx).keep k rfl rfl (fun C hC => ⟨hC, hne hC (by simp)⟩), fun C o h => by rw [show (X.withH h').h.n = X.h.n from hn]; exact hp.own C o h, fun C c h => by have := hp.ownb C c h; simpa [PH.put, setO_length] using this, hp.ownr,
    fun C hC => hp.newG C (by rw [← hn]; exact hC), by have := hp.lim; show h'.lim ≤ h'.n; omega⟩
  · have hc : c < σ.ob.length := by have := getO_lt h (by simp); simpa [PH.put, setO_length] using this
    rw [hgt c hc] at h
    split at h
    · rename_i e
      injection h with e1 e2; subst e1; subst e2; subst e
      have hBn := hp.own B _ hO
      refine ⟨B, off, acs', cc', [], hob, hO, by show B < h'.n; omega, hG, ?_, hs, hv.tr k, fun q hq => by simp at hq, fun hle => ⟨by show h'.lim ≤ B; rw [hl]; exact hlim hle, fun q hq => by simp at hq⟩⟩
      show h'.get B = _
      rw [hget, if_pos rfl]
    · rename_i e
      exact (hp.obj c cs2 ez2 h).keep k rfl (fun C hC => ⟨hC, hne hC (by simpa using e)⟩)
  · have hc : c < σ.ob.length := by have := getO_lt h (by simp); simpa [PH.put, setO_length] using this
    rw [hgt c hc] at h
    split at h
    · cases h
    · rename_i e
      exact (hp.map c es cl h).keep k rfl (fun C hC => ⟨hC, hne hC (by simpa using e)⟩)
theorem PRel.writeM (hp : PRel X σ) {b B cl cl' cl0 : Nat} {es es' : List (PV × PV × Nat)} {aes aes' : List (AV × AV × Nat)}
    (hb : σ.get b = .map es cl0) (hob : X.ob b = some (B, 0)) (hO : X.O B = some (.ob b)) (hg : X.h.get B = some (.map aes cl)) (hlim : σ.lim ≤ b → X.h.lim ≤ B) (hv : MRel X es' aes') :
    Tr X (X.withH (X.h.put B (.map aes' cl'))) ∧ PRel (X.withH (X.h.put B (.map aes' cl'))) (σ.put b (.map es' cl')) := by
  have hget : ∀ x, (X.h.put B (.map aes' cl')).get x = if x = B then some (.map aes' cl') else X.h.get x := fun x => AHeap.get_put _ _ _ _
  have hne : ∀ {C : Nat} {o : Option Owner}, X.O C = o → o ≠ some (.ob b) → (X.h.put B (.map aes' cl')).get C = X.h.get C := by
    intro C o h ho
    rw [hget, if_neg (by rintro rfl; rw [hO] at h; exact ho h.symm)]
  have k : Tr X (X.withH (X.h.put B (.map aes' cl'))) := .of (fun _ _ h => h) (fun C h _ => ⟨h, hne h (by simp)⟩) (Nat.le_refl _) rfl rfl rfl (fun r v x ez2 hr hx => ⟨rfl, by
    obtain ⟨_, _, _, h1, _⟩ := hp.root r v x ez2 (by rw [← hp.rt]; exact hr) hx
    exact hne h1 (by simp)⟩)
  have hgt : ∀ c, c < σ.ob.length → (σ.put b (.map es' cl')).get c = if c = b then .map es' cl' else σ.get c := fun c hc => getO_setO _ _ _ _ hc
  refine ⟨k, hp.rt, fun c q h => by have := hp.dom c q h; simpa [PH.put, setO_length] using this, fun c cs2 ez2 h => ?_, fun c es2 cl2 h => ?_,
    fun r v x ez2 h hx => (hp.root r v x ez2 h hx).keep k rfl rfl (fun C hC => ⟨hC, hne hC (by simp)⟩), fun C o h => hp.own C o h, fun C c h => by have := hp.ownb C c h; simpa [PH.put, setO_length] using this, hp.ownr, hp.newG, hp.lim⟩
  · have hc : c < σ.ob.length := by have := getO_lt h (by simp); simpa [PH.put, setO_length] using this
    rw [hgt c hc] at h
    split at h
    · cases h
    · rename_i e
      exact (hp.obj c cs2 ez2 h).keep k rfl (fun C hC => ⟨hC, hne hC (by simpa using e)⟩)
  · have hc : c < σ.ob.length := by have := getO_lt h (by simp); simpa [PH.put, setO_length] using this
    rw [hgt c hc] at h
    split at h
    · rename_i e
      injection h with e1 e2; subst e1; subst e2; subst e
      refine ⟨B, aes', hob, hO, hp.own B _ hO, ?_, hv.tr k, hlim⟩
      show (X.h.put B (.map aes' cl')).get B = _
      rw [hget, if_pos rfl]
    · rename_i e
      exact (hp.map c es2 cl2 h).keep k rfl (fun C hC => ⟨hC, hne hC (by simpa using e)⟩)

/-- A root has a newer list: in the same block, or in a new one. -/
def Cx.grown (X : Cx) (r : Nat) (y : Root) (B : Nat) (h : AHeap) : Cx := ⟨X.ob, fun q => if q = r then B else X.rb q, setR X.rt r y, fun C => if C = B then some (.rt r) else X.O C, X.G, h⟩
theorem PRel.grown (hp : PRel X σ) {r v x ez v' x' ez' B : Nat} {cc : List AV} {prev : List Nat}
    (hr : getR X.rt r = .live v x ez) (hv : v < v') (hB : X.O B = some (.rt r) ∨ X.h.n ≤ B) (hBn : B < h'.n) (hBl : σ.rlim ≤ r → X.h.lim ≤ B ∧ ∀ q ∈ prev, X.h.lim ≤ q) (hG : X.G B)
    (hn : X.h.n ≤ h'.n) (hl : h'.lim = X.h.lim) (hg : h'.get B = some (.cells cc .rw prev ez')) (hpv : ∀ q ∈ prev, q < h'.n ∧ X.O q = some (.rt r) ∧ q ≠ B)
    (hget : ∀ C o, X.O C = o → o ≠ some (.rt r) → C < X.h.n → h'.get C = X.h.get C) :
    Tr X (X.grown r (.live v' x' ez') B h') ∧ PRel (X.grown r (.live v' x' ez') B h') (σ.setRoot r (.live v' x' ez')) := by
  have hlt := getR_lt hr (by simp)
  have hO : ∀ {C : Nat} {o : Option Owner}, X.O C = o → o ≠ some (.rt r) → C < X.h.n → (X.grown r (.live v' x' ez') B h').O C = o ∧ (X.grown r (.live v' x' ez') B h').h.get C = X.h.get C := by
    intro C o h ho hC
    refine ⟨?_, hget C o h ho hC⟩
    show (if C = B then _ else X.O C) = o
    rw [if_neg (by
      rintro rfl
      rcases hB with e | e
      · rw [e] at h; exact ho h.symm
      · omega)]; exact h
  have hrt : ∀ q, getR (X.grown r (.live v' x' ez') B h').rt q = if q = r then .live v' x' ez' else getR X.rt q := fun q => getR_setR' _ _ _ _ hlt
  have k : Tr X (X.grown r (.live v' x' ez') B h') := by
    refine Tr.mk' (fun _ _ h => h) (fun C h hC => hO h (by simp) hC) hn rfl hl (by simp [Cx.grown, setR_length]) (fun q hq => ?_)
    unfold RTr
    by_cases e : q = r
    · subst e
      rw [hr]; simp only
      refine .inr (.inr ?_); rw [hrt, if_pos rfl]; exact hv
    · have h2 := hrt q
      rw [if_neg e] at h2
      cases e' : getR X.rt q with
      | gone => exact h2.trans e'
      | shut v => exact h2.trans e'
      | live v2 x2 ez2 =>
        refine .inl ⟨h2.trans e', fun hx => ⟨by show (if q = r then B else X.rb q) = _; rw [if_neg e], ?_⟩⟩
        obtain ⟨_, _, _, h1, h3, _⟩ := hp.root q v2 x2 ez2 (by rw [← hp.rt]; exact e') hx
        exact (hO h1 (by simp [e]) h3).2
  refine ⟨k, by simp [Cx.grown, PH.setRoot, hp.rt], hp.dom, fun b cs2 ez2 h => (hp.obj b cs2 ez2 h).keep k rfl (fun C hC => hO hC (by simp) (hp.own C _ hC)),
    fun b es cl h => (hp.map b es cl h).keep k rfl (fun C hC => hO hC (by simp) (hp.own C _ hC)), fun q v2 x2 ez2 h hx => ?_, fun C o h => ?_, fun C c h => ?_, fun C c h => ?_, fun C hC => hp.newG C (Nat.le_trans hn hC), by have := hp.lim; show h'.lim ≤ h'.n; omega⟩
  · have hg' : getR (σ.setRoot r (.live v' x' ez')).rt q = if q = r then .live v' x' ez' else getR σ.rt q := getR_setR' _ _ _ _ (by rw [← hp.rt]; exact hlt)
    rw [hg'] at h
    split at h
    · rename_i e
      injection h with e1 e2 e3; subst e1; subst e2; subst e3; subst e
      have hrb : (X.grown q (.live v' x' ez') B h').rb q = B := by show (if _ then _ else _) = _; rw [if_pos rfl]
      have hOq : ∀ p, X.O p = some (.rt q) → (X.grown q (.live v' x' ez') B h').O p = some (.rt q) := fun p hpq => by
        show (if p = B then _ else X.O p) = _
        split
        · rfl
        · exact hpq
      refine ⟨cc, prev, by rw [hrb]; exact hg, by rw [hrb]; show (if _ then _ else _) = _; rw [if_pos rfl], by rw [hrb]; exact hBn, by rw [hrb]; exact hG, fun p hpp => ?_, fun hle => ?_⟩
      · obtain ⟨a1, a2, a3⟩ := hpv p hpp
        exact ⟨a1, hOq p a2, by rw [hrb]; exact a3⟩
      · obtain ⟨a1, a2⟩ := hBl hle
        rw [hrb]; exact ⟨by show h'.lim ≤ B; rw [hl]; exact a1, fun p hpp => by show h'.lim ≤ p; rw [hl]; exact a2 p hpp⟩
    · rename_i e
      have hrb : (X.grown r (.live v' x' ez') B h').rb q = X.rb q := by show (if _ then _ else _) = _; rw [if_neg e]
      exact (hp.root q v2 x2 ez2 h hx).keep k rfl hrb (fun C hC => hO hC (by simp [e]) (hp.own C _ hC))
  · have h2 : (if C = B then some (Owner.rt r) else X.O C) = some o := h
    split at h2
    · rename_i e; subst e; exact hBn
    · exact Nat.lt_of_lt_of_le (hp.own C o h2) hn
  · have h2 : (if C = B then some (Owner.rt r) else X.O C) = some (.ob c) := h
    split at h2
    · cases h2
    · exact hp.ownb C c h2
  · have h2 : (if C = B then some (Owner.rt r) else X.O C) = some (.rt c) := h
    split at h2
    · injection h2 with h2; injection h2 with h2; subst h2; simp [PH.setRoot, setR_length, ← hp.rt]; exact hlt
    · have := hp.ownr C c h2; simpa [PH.setRoot, setR_length] using this

/-- What may be appended to becomes an object. -/
def Cx.thawed (X : Cx) (r n off : Nat) : Cx := ⟨fun c => if c = n then some (X.rb r, off) else X.ob c, X.rb, setR X.rt r .gone, fun C => match X.O C with
  | some (.rt q) => if q = r then some (.ob n) else some (.rt q)
  | o => o, X.G, X.h⟩
theorem Cx.thawed_O {r n off C : Nat} {o : Option Owner} (h : X.O C = o) (ho : o ≠ some (.rt r)) : (X.thawed r n off).O C = o := by
  show (match X.O C with | some (.rt q) => if q = r then some (Owner.ob n) else some (.rt q) | o => o) = o
  rw [h]
  cases o with
  | none => rfl
  | some o => cases o with
    | rt q => simp only; rw [if_neg (by rintro rfl; exact ho rfl)]
    | ob b => rfl
    | fr i => rfl
theorem PRel.thawed (hp : PRel X σ) {r v x ez off : Nat} {cs : List PV} {acs cc : List AV} {prev : List Nat} (hr : getR X.rt r = .live v x ez) (hx : 0 < x) (hrl : σ.rlim ≤ r)
    (hg : X.h.get (X.rb r) = some (.cells cc .rw prev ez)) (hs : Part cc off acs) (hv : VRelL X cs acs) :
    Tr X (X.thawed r σ.ob.length off) ∧ PRel (X.thawed r σ.ob.length off) ((σ.setRoot r .gone).push (.cells cs ez)) := by
  have hlt := getR_lt hr (by simp)
  obtain ⟨cc2, prev2, g1, g2, g3, g4, g5, g6⟩ := hp.root r v x ez (by rw [← hp.rt]; exact hr) hx
  rw [hg] at g1; injection g1 with g1; injection g1 with e1 e2 e3 e4; subst e1; subst e3
  have hrt : ∀ q, getR (X.thawed r σ.ob.length off).rt q = if q = r then .gone else getR X.rt q := fun q => getR_setR' _ _ _ _ hlt
  have k : Tr X (X.thawed r σ.ob.length off) := by
    refine Tr.mk' (fun b q h => ?_) (fun C h _ => ⟨Cx.thawed_O h (by simp), rfl⟩) (Nat.le_refl _) rfl rfl (by simp [Cx.thawed, setR_length]) (fun q hq => ?_)
    · have := hp.dom b q h
      show (if b = σ.ob.length then _ else X.ob b) = _
      rw [if_neg (by omega)]; exact h
    · unfold RTr
      have h2 := hrt q
      by_cases e : q = r
      · subst e; rw [hr]; simp only
        refine .inr (.inr ?_); rw [h2, if_pos rfl]; trivial
      · rw [if_neg e] at h2
        cases e' : getR X.rt q with
        | gone => exact h2.trans e'
        | shut v => exact h2.trans e'
        | live v2 x2 ez2 => exact .inl ⟨h2.trans e', fun _ => ⟨rfl, rfl⟩⟩
  have hOr : ∀ p, X.O p = some (.rt r) → (X.thawed r σ.ob.length off).O p = some (.ob σ.ob.length) := fun p hpr => by
    show (match X.O p with | some (.rt q) => if q = r then some (Owner.ob σ.ob.length) else some (.rt q) | o => o) = _
    rw [hpr]; simp
  have hgetO : ∀ b, ((σ.setRoot r .gone).push (.cells cs ez)).get b = if b = σ.ob.length then .cells cs ez else σ.get b := fun b => getO_append _ _ _
  have hgetR : ∀ q, getR ((σ.setRoot r .gone).push (.cells cs ez)).rt q = if q = r then .gone else getR σ.rt q := fun q => getR_setR' _ _ _ _ (by rw [← hp.rt]; exact hlt)
  refine ⟨k, by simp [Cx.thawed, PH.setRoot, PH.push, hp.rt], fun b q h => ?_, fun b cs2 ez2 h => ?_, fun b es cl h => ?_, fun q v2 x2 ez2 h hx2 => ?_, fun C o h => ?_, fun C c h => ?_, fun C c h => ?_, hp.newG, hp.lim⟩
  · have h' : (if b = σ.ob.length then some (X.rb r, off) else X.ob b) = some q := h
    split at h'
    · simp [PH.push, PH.setRoot]; omega
    · have := hp.dom b q h'; simp [PH.push, PH.setRoot]; omega
  · rw [hgetO] at h
    split at h
    · rename_i e
      injection h with e1 e2; subst e1; subst e2; subst e
      refine ⟨X.rb r, off, acs, cc, prev, ?_, hOr _ g2, g3, g4, hg, hs, hv.tr k, fun q hq => ?_, fun _ => g6 hrl⟩
      · show (if _ then _ else _) = _; rw [if_pos rfl]
      · obtain ⟨a1, a2, a3⟩ := g5 q hq
        exact ⟨a1, hOr q a2, a3⟩
    · exact (hp.obj b cs2 ez2 h).keep k rfl (fun C hC => ⟨Cx.thawed_O hC (by simp), rfl⟩)
  · rw [hgetO] at h
    split at h
    · cases h
    · exact (hp.map b es cl h).keep k rfl (fun C hC => ⟨Cx.thawed_O hC (by simp), rfl⟩)
  · rw [hgetR] at h
    split at h
    · cases h
    · rename_i e
      exact (hp.root q v2 x2 ez2 h hx2).keep k rfl rfl (fun C hC => ⟨Cx.thawed_O hC (by simp [e]), rfl⟩)
  · cases e : X.O C with
    | none => rw [Cx.thawed_O e (by simp)] at h; cases h
    | some o' => exact hp.own C o' e
  · have hl2 : ((σ.setRoot r .gone).push (.cells cs ez)).ob.length = σ.ob.length + 1 := by simp [PH.push, PH.setRoot]
    rw [hl2]
    by_cases e : X.O C = some (.rt r)
    · rw [hOr C e] at h; injection h with h; injection h with h; omega
    · rw [Cx.thawed_O rfl e] at h; have := hp.ownb C c h; omega
  · have hl2 : ((σ.setRoot r .gone).push (.cells cs ez)).rt.length = σ.rt.length := by simp [PH.push, PH.setRoot, setR_length]
    rw [hl2]
    by_cases e : X.O C = some (.rt r)
    · rw [hOr C e] at h; cases h
    · rw [Cx.thawed_O rfl e] at h; exact hp.ownr C c h

theorem TrC.lim (X : Cx) (L : Nat) : TrC X (X.withH (X.h.withLim L)) :=
  ⟨fun _ _ h => h, fun _ h _ => ⟨h, rfl⟩, Nat.le_refl _, rfl, Nat.le_refl _, fun r _ => by
    unfold RTr
    cases e : getR X.rt r with
    | gone => exact e
    | shut v => exact e
    | live v x ez => exact .inl ⟨e, fun _ => ⟨rfl, rfl⟩⟩⟩
theorem MRel.trc (k : TrC X X') : ∀ {l : List (PV × PV × Nat)} {r : List (AV × AV × Nat)}, MRel X l r → MRel X' l r
  | _, _, .nil => .nil
  | _, _, .cons _ _ _ _ b _ _ hk hv h => .cons _ _ _ _ b _ _ (hk.trc k) (hv.trc k) (h.trc k)
theorem PRel.withLim (hp : PRel X σ) {l rl L : Nat} (hL : L ≤ X.h.n) (h2 : ∀ b q, l ≤ b → X.O q = some (.ob b) → L ≤ q) (h3 : ∀ r q, rl ≤ r → X.O q = some (.rt r) → L ≤ q) :
    PRel (X.withH (X.h.withLim L)) (σ.withLim l rl) := by
  have k := TrC.lim X L
  refine ⟨hp.rt, hp.dom, fun b cs ez h => ?_, fun b es cl h => ?_, fun r v x ez h hx => ?_, hp.own, hp.ownb, hp.ownr, hp.newG, hL⟩
  · obtain ⟨B, off, acs, cc, prev, g1, g2, g3, g4, g5, g6, g7, g8, g9⟩ := hp.obj b cs ez h
    exact ⟨B, off, acs, cc, prev, g1, g2, g3, g4, g5, g6, g7.trc k, g8, fun hle => ⟨h2 b B hle g2, fun q hq => h2 b q hle (g8 q hq).2.1⟩⟩
  · obtain ⟨B, aes, g1, g2, g3, g4, g5, g6⟩ := hp.map b es cl h
    exact ⟨B, aes, g1, g2, g3, g4, g5.trc k, fun hle => h2 b B hle g2⟩
  · obtain ⟨cc, prev, g1, g2, g3, g4, g5, g6⟩ := hp.root r v x ez h hx
    exact ⟨cc, prev, g1, g2, g3, g4, g5, fun hle => ⟨h3 r _ hle g2, fun q hq => h3 r q hle (g5 q hq).2.1⟩⟩
end Go.Av
