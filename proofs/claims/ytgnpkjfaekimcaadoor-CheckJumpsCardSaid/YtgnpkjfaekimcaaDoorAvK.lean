/- What the contracts of functions are proved with: numbers, closed values, lists of structs, loops. -/
import Derived.Test.YtgnpkjfaekimcaaDoorAvX
set_option linter.unusedVariables false
set_option linter.unusedSimpArgs false
set_option linter.unusedSectionVars false
namespace Go.Av
@[simp] theorem blt_dec (a b : Nat) : Nat.blt a b = decide (a < b) := by
  by_cases h : a < b
  · rw [blt_iff.2 h]; simp [h]
  · rw [blt_false.2 (by omega)]; simp [h]
@[simp] theorem ble_dec (a b : Nat) : Nat.ble a b = decide (a ≤ b) := by
  by_cases h : a ≤ b
  · rw [ble_iff.2 h]; simp [h]
  · cases e : Nat.ble a b with
    | true => exact absurd (ble_iff.1 e) h
    | false => simp [h]
@[simp] theorem nbeq_dec (a b : Nat) : Nat.beq a b = decide (a = b) := by
  by_cases h : a = b
  · rw [beq_iff.2 h]; simp [h]
  · cases e : Nat.beq a b with
    | true => exact absurd (beq_iff.1 e) h
    | false => simp [h]
@[simp] theorem seq8_dec (a b : List UInt8) : seq8 a b = decide (a = b) := by
  by_cases h : a = b
  · rw [(seq8_iff a b).2 h]; simp [h]
  · cases e : seq8 a b with
    | true => exact absurd ((seq8_iff a b).1 e) h
    | false => simp [h]
@[simp] theorem pIndex_nat (k : IntKind) (j n : Nat) : pIndex (.i k (j : Int)) n = if j < n then some j else none := by
  show (match Nat.blt j n with | true => some j | false => none) = _
  by_cases h : j < n
  · rw [blt_iff.2 h, if_pos h]
  · rw [blt_false.2 (by omega), if_neg h]
theorem awrap_id {n : Int} (h : -9223372036854775808 ≤ n) (h2 : n < 9223372036854775808) : awrap .i64 n = n := by
  rw [awrap_eq]
  simp [IntKind.wrap, IntKind.signed, IntKind.bits]
  split <;> omega
@[simp] theorem awrap_nat1 {n : Nat} (h : n < 9223372036854775807) : awrap .i64 (n + 1) = n + 1 := awrap_id (by omega) (by omega)
/-! ## Closed values -/
section clo
variable (k : Nat) (σ : PH)
@[simp] theorem clo_b (x : Bool) : clo (k + 1) σ (.b x) = some (.b x, σ) := rfl
@[simp] theorem clo_i (t : IntKind) (n : Int) : clo (k + 1) σ (.i t n) = some (.i t n, σ) := rfl
@[simp] theorem clo_s (x : List UInt8) : clo (k + 1) σ (.s x) = some (.s x, σ) := rfl
@[simp] theorem clo_nilp : clo (k + 1) σ .nilp = some (.nilp, σ) := rfl
@[simp] theorem clo_nilm : clo (k + 1) σ .nilm = some (.nilm, σ) := rfl
@[simp] theorem clo_nilf : clo (k + 1) σ .nilf = some (.nilf, σ) := rfl
@[simp] theorem clo_nili : clo (k + 1) σ .nili = some (.nili, σ) := rfl
@[simp] theorem clo_f (fn : Nat) : clo (k + 1) σ (.f fn [] []) = some (.f fn [] [], σ) := rfl
@[simp] theorem clo_v (t : Bool) (n : Nat) (cs : List PV) : clo (k + 1) σ (.ls (.v false t) n cs) = some (.ls (.v false false) n cs, σ) := rfl
@[simp] theorem clo_own (r v n : Nat) (cs : List PV) : clo (k + 1) σ (.ls (.own r v) n cs) = (match σ.root r with
    | .live v' _ _ => match Nat.beq v v' with
      | true => some (.ls (.v false false) n cs, σ.setRoot r (.shut v))
      | false => none
    | .shut v' => match Nat.beq v v' with
      | true => some (.ls (.v false false) n cs, σ)
      | false => none
    | .gone => none) := rfl
@[simp] theorem clo_sl (b o n : Nat) (c : Option Nat) : clo (k + 1) σ (.sl b o n c) = (match σ.get b with
    | .cells cs (ez + 1) => match psub cs o (n * (ez + 1)) with
      | some l => match mapC (clo k) (σ.put b .dead) l with
        | some (l', σ') => some (.ls (.v false false) n l', σ')
        | none => none
      | none => none
    | _ => none) := rfl
@[simp] theorem lendC_b (x : Bool) : lendC (k + 1) σ (.b x) = some (.b x) := rfl
@[simp] theorem lendC_i (t : IntKind) (n : Int) : lendC (k + 1) σ (.i t n) = some (.i t n) := rfl
@[simp] theorem lendC_s (x : List UInt8) : lendC (k + 1) σ (.s x) = some (.s x) := rfl
@[simp] theorem lendC_nilp : lendC (k + 1) σ .nilp = some .nilp := rfl
@[simp] theorem lendC_nilm : lendC (k + 1) σ .nilm = some .nilm := rfl
@[simp] theorem lendC_nilf : lendC (k + 1) σ .nilf = some .nilf := rfl
@[simp] theorem lendC_nili : lendC (k + 1) σ .nili = some .nili := rfl
@[simp] theorem lendC_f (fn : Nat) : lendC (k + 1) σ (.f fn [] []) = some (.f fn [] []) := rfl
@[simp] theorem lendC_v (b t : Bool) (n : Nat) (cs : List PV) : lendC (k + 1) σ (.ls (.v b t) n cs) = some (.ls (.v b false) n cs) := rfl
@[simp] theorem lendC_own (r v n : Nat) (cs : List PV) : lendC (k + 1) σ (.ls (.own r v) n cs) = (match σ.reads (.own r v) with
    | true => some (.ls (.v true false) n cs)
    | false => none) := rfl
@[simp] theorem lendC_sl (b o n : Nat) (c : Option Nat) : lendC (k + 1) σ (.sl b o n c) = (match σ.get b with
    | .cells cs (ez + 1) => match psub cs o (n * (ez + 1)) with
      | some l => match mapO (lendC k σ) l with
        | some l' => some (.ls (.v true false) n l')
        | none => none
      | none => none
    | _ => none) := rfl
end clo
/-- A value that is closed already, and so is what is closed. -/
def Shut : PV → Prop
  | .b _ | .i _ _ | .s _ | .nilp | .nilm | .nilf | .nili => True
  | .f _ [] [] => True
  | .ls (.v false false) _ _ => True
  | _ => False
def ShutL (l : List PV) : Prop := ∀ v ∈ l, Shut v
theorem clo_shut {k : Nat} {σ : PH} {v : PV} (h : Shut v) : clo (k + 1) σ v = some (v, σ) := by
  unfold Shut at h
  split at h <;> first | rfl | exact h.elim
theorem clo_shutL {k : Nat} {σ : PH} : ∀ {l : List PV}, ShutL l → mapC (clo (k + 1)) σ l = some (l, σ)
  | [], _ => rfl
  | v :: l, h => by
    have h1 := clo_shut (k := k) (σ := σ) (h v (by simp))
    have h2 := clo_shutL (k := k) (σ := σ) (l := l) (fun x hx => h x (by simp [hx]))
    simp [mapC, h1, h2]
theorem lend_shut {k : Nat} {σ : PH} {v : PV} (h : Shut v) : lendC (k + 1) σ v = some v := by
  unfold Shut at h
  split at h <;> first | rfl | exact h.elim
theorem lend_shutL {k : Nat} {σ : PH} : ∀ {l : List PV}, ShutL l → mapO (lendC (k + 1) σ) l = some l
  | [], _ => rfl
  | v :: l, h => by
    have h1 := lend_shut (k := k) (σ := σ) (h v (by simp))
    have h2 := lend_shutL (k := k) (σ := σ) (l := l) (fun x hx => h x (by simp [hx]))
    simp [mapO, h1, h2]
/-! ## Lists of structs -/
theorem flat_len {α : Type} {enc : α → List PV} {k : Nat} (h : ∀ a, (enc a).length = k) : ∀ l : List α, (l.flatMap enc).length = l.length * k
  | [] => by simp
  | a :: l => by simp [flat_len h l, h, Nat.succ_mul]; omega
theorem flat_get {α : Type} {enc : α → List PV} {k : Nat} (h : ∀ a, (enc a).length = k) (l : List α) (i : Nat) (a : α) (e : l[i]? = some a) (j : Nat) (hj : j < k) : pget (l.flatMap enc) (i * k + j) = (enc a)[j]? := by
  unfold pget
  induction l generalizing i with
  | nil => simp at e
  | cons b l ih =>
    cases i with
    | zero =>
      simp at e; subst e
      simp [List.getElem?_append, h, hj]
    | succ i =>
      simp at e
      have := ih i e
      rw [List.flatMap_cons, List.getElem?_append_right (by rw [h, Nat.succ_mul]; omega), h, ← this]
      congr 1; rw [Nat.succ_mul]; omega
theorem flat_sub {α : Type} {enc : α → List PV} {k : Nat} (h : ∀ a, (enc a).length = k) (l : List α) (i : Nat) (a : α) (e : l[i]? = some a) : psub (l.flatMap enc) (i * k) k = some (enc a) := by
  induction l generalizing i with
  | nil => simp at e
  | cons b l ih =>
    cases i with
    | zero =>
      simp at e; subst e
      simp [psub, h, List.take_append, List.take_of_length_le]
    | succ i =>
      simp at e
      have := ih i e
      unfold psub at this ⊢
      split at this
      · rename_i h1
        rw [if_pos (by simp [h, Nat.succ_mul] at h1 ⊢; omega)]
        rw [← this]
        congr 1
        rw [List.flatMap_cons, List.drop_append, h, List.drop_eq_nil_of_le (by rw [h, Nat.succ_mul]; omega)]
        simp
        congr 2
        rw [Nat.succ_mul]; omega
      · cases this
theorem flat_shut {α : Type} {enc : α → List PV} (h : ∀ a, ShutL (enc a)) (l : List α) : ShutL (l.flatMap enc) := by
  intro v hv
  obtain ⟨a, _, ha⟩ := List.mem_flatMap.1 hv
  exact h a v ha
/-- One more, at the end of an own list. -/
theorem pan_flat {α : Type} {enc : α → List PV} {k : Nat} (h : ∀ a, (enc a).length = k) (hk : 0 < k) {bytes r v n : Nat} {σ : PH} (l l' : List α) (a : α) (hl : l ++ [a] = l') (hn : l.length = n) (hr : σ.root r = .live v n k) (hb : n + 1 ≤ 1073741824) (hby : bytes ≤ 1024) :
    pappendNew σ k bytes (.ls (.own r v) n (l.flatMap enc)) 1 (enc a) = some (.ls (.own r (v + 1)) (n + 1) (l'.flatMap enc), σ.setRoot r (.live (v + 1) (n + 1) k)) := by
  subst hl
  rw [pan_own hr (.inr rfl) hk (by rw [flat_len h, hn]) rfl (by omega) hb hby]
  simp
theorem take_succ {α : Type} {l : List α} {i : Nat} (h : i < l.length) : l.take i ++ [l[i]] = l.take (i + 1) := by simp
theorem take_map_succ {α β : Type} (f : α → β) {l : List α} {i : Nat} (h : i < l.length) : (l.map f).take i ++ [f l[i]] = (l.map f).take (i + 1) := by
  rw [List.take_add_one]; simp [h]
@[simp] theorem take_map_all {α β : Type} (f : α → β) (l : List α) : (l.map f).take l.length = l.map f := List.take_of_length_le (by simp)
/-- One element is written anew. -/
theorem splice_flat {α : Type} {enc : α → List PV} {k : Nat} (h : ∀ a, (enc a).length = k) (l : List α) (i : Nat) (a : α) (hi : i < l.length) : psplice (l.flatMap enc) (i * k) (enc a) = some ((l.set i a).flatMap enc) := by
  unfold psplice
  rw [if_pos (by rw [flat_len h, h, ← Nat.succ_mul]; exact Nat.mul_le_mul_right k hi)]
  congr 1
  induction l generalizing i with
  | nil => simp at hi
  | cons b l ih =>
    cases i with
    | zero => simp [h, List.drop_append]
    | succ i =>
      have := ih i (by simpa using hi)
      simp only [List.flatMap_cons, List.set_cons_succ]
      rw [← this, List.take_append, List.drop_append, List.take_of_length_le (by rw [h, Nat.succ_mul]; omega), List.drop_eq_nil_of_le (by rw [h, Nat.succ_mul]; omega)]
      have e1 : (i + 1) * k - (enc b).length = i * k := by rw [h, Nat.succ_mul]; omega
      have e2 : (i + 1) * k + (enc a).length - (enc b).length = i * k + (enc a).length := by rw [h, h, Nat.succ_mul]; omega
      rw [e1, e2]; simp
theorem set_mix {α : Type} {l m : List α} (i : Nat) (hl : i < l.length) (hm : l.length = m.length) : (m.take i ++ l.drop i).set i m[i] = m.take (i + 1) ++ l.drop (i + 1) := by
  apply List.ext_getElem
  · simp; omega
  · intro j h1 h2
    rw [List.getElem_set]
    simp only [List.getElem_append, List.length_take]
    split
    · rename_i e; subst e
      rw [dif_pos (by omega)]; simp
    · split
      · rename_i hj
        rw [dif_pos (by omega)]; simp
      · rename_i hj
        rw [dif_neg (by omega)]
        simp; congr 1; omega
theorem psub_all {l : List PV} {n : Nat} (h : l.length = n) : psub l 0 n = some l := by
  subst h; simp [psub]
/-! ## Loops -/
/-- A loop with a counter: n rounds, and an end. -/
theorem for_loop {f : PSt → Option (Ex × PSt)} {T : Type} (k : Nat) (σ : Nat → T → PSt) (τ : T → PSt) (n : Nat) (hs : ∀ i, i < n → ∀ t, ∃ t', f (σ i t) = some (.norm, σ (i + 1) t'))
    (he : ∀ t, ∃ t', f (σ n t) = some (.exit k, τ t')) (t : T) : ∃ t', piterL f (σ 0 t) = some (.exit k, τ t') := by
  have key : ∀ m i, i + m = n → ∀ t, ∃ t', piterL f (σ i t) = some (.exit k, τ t') := by
    intro m
    induction m with
    | zero =>
      intro i hi t
      have : i = n := by omega
      subst this
      obtain ⟨t', h⟩ := he t
      exact ⟨t', by rw [piterL_eq, h]⟩
    | succ m ih =>
      intro i hi t
      obtain ⟨t1, h1⟩ := hs i (by omega) t
      obtain ⟨t2, h2⟩ := ih (i + 1) (by omega) t1
      exact ⟨t2, by rw [piterL_eq, h1]; exact h2⟩
  exact key n 0 (by omega) t
/-- A loop that may answer in a round. -/
theorem for_find {f : PSt → Option (Ex × PSt)} {T : Type} (k : Nat) (σ : Nat → T → PSt) (τ : T → PSt) (p : Nat → Prop) (ρ : Nat → T → PSt) (n : Nat)
    (hr : ∀ i, i < n → p i → ∀ t, ∃ t', f (σ i t) = some (.ret, ρ i t'))
    (hs : ∀ i, i < n → ¬ p i → ∀ t, ∃ t', f (σ i t) = some (.norm, σ (i + 1) t'))
    (he : ∀ t, ∃ t', f (σ n t) = some (.exit k, τ t')) (t : T) :
    (∃ i, i < n ∧ p i ∧ (∀ j, j < i → ¬ p j) ∧ ∃ t', piterL f (σ 0 t) = some (.ret, ρ i t')) ∨ ((∀ j, j < n → ¬ p j) ∧ ∃ t', piterL f (σ 0 t) = some (.exit k, τ t')) := by
  have key : ∀ m i, i + m = n → (∀ j, j < i → ¬ p j) → ∀ t,
      (∃ i', i' < n ∧ p i' ∧ (∀ j, j < i' → ¬ p j) ∧ ∃ t', piterL f (σ i t) = some (.ret, ρ i' t')) ∨ ((∀ j, j < n → ¬ p j) ∧ ∃ t', piterL f (σ i t) = some (.exit k, τ t')) := by
    intro m
    induction m with
    | zero =>
      intro i hi hj t
      have : i = n := by omega
      subst this
      obtain ⟨t', h⟩ := he t
      exact .inr ⟨hj, t', by rw [piterL_eq, h]⟩
    | succ m ih =>
      intro i hi hj t
      by_cases hp : p i
      · obtain ⟨t', h⟩ := hr i (by omega) hp t
        exact .inl ⟨i, by omega, hp, hj, t', by rw [piterL_eq, h]⟩
      · obtain ⟨t1, h1⟩ := hs i (by omega) hp t
        have hj' : ∀ j, j < i + 1 → ¬ p j := by
          intro j hj1
          rcases Nat.lt_succ_iff_lt_or_eq.1 hj1 with h | h
          · exact hj j h
          · subst h; exact hp
        rcases ih (i + 1) (by omega) hj' t1 with ⟨i', a, b, c, t2, h2⟩ | ⟨a, t2, h2⟩
        · exact .inl ⟨i', a, b, c, t2, by rw [piterL_eq, h1]; exact h2⟩
        · exact .inr ⟨a, t2, by rw [piterL_eq, h1]; exact h2⟩
  exact key n 0 (by omega) (fun j hj => by omega) t
/-- The first of a list's elements that is so. -/
theorem findIdx_some {α : Type} {p : α → Bool} {l : List α} {i : Nat} (h : i < l.length) (hp : p l[i] = true) (hj : ∀ j, (hj : j < i) → p (l[j]'(by omega)) = false) : l.findIdx? p = some i := by
  rw [List.findIdx?_eq_some_iff_getElem]
  exact ⟨h, hp, fun j hji => by simp [hj j hji]⟩
theorem findIdx_none {α : Type} {p : α → Bool} {l : List α} (hj : ∀ j, (h : j < l.length) → p l[j] = false) : l.findIdx? p = none := by
  rw [List.findIdx?_eq_none_iff]
  intro x hx
  obtain ⟨j, h, rfl⟩ := List.getElem_of_mem hx
  exact hj j h
end Go.Av
