/- A region that draws its order: what is known of it. -/
import Derived.Test.YtgnpkjfaekimcaaDoorAvWeak
set_option linter.unusedVariables false
set_option linter.unusedSimpArgs false
set_option linter.unusedSectionVars false
namespace Go.Av

def Before (mask : Nat → Nat) (p k : Nat) : Prop := p < k ∧ (mask k).testBit p = true

structure Reg (P : Program) (call : Nat → List AV → AHeap → Option (AV × AHeap)) (ops : Array Oper) (vt : List Nat) (nt : Nat) (mask : Nat → Nat) (B : Nat → ARO)
    (H : Nat → AHeap) (V : Nat → AV) (VS : Nat → List AV) : Prop where
  hcall : CallOk P call
  hkeep : KeepOk call
  nd : nodupN vt = true
  dd : nodupDst (ops.toList.map (·.dst)) = true
  db : dstsBelow nt (ops.toList.map (·.dst)) = true
  b : ∀ k o, ops[k]? = some o → (B k).op = (cOper P vt k (dsOf ops.toList k) o).op ∧ (B k).guard = (cOper P vt k (dsOf ops.toList k) o).guard ∧ (B k).var = varOf vt o.dst
  st : ∀ k o, ops[k]? = some o → StepAt call (B k) (rsOf V k) (VS k) (H k) (V k) (VS (k + 1)) (H (k + 1))
  msk : ∀ k o, ops[k]? = some o → ∀ p, (mask k).testBit p = true → ∃ e ∈ o.after, Region.binds .any e = true ∧ e.on < k ∧ (p = e.on ∨ (mask e.on).testBit p = true)
  looks : ∀ k o, ops[k]? = some o → ∀ t, Operand.tmp t ∈ o.op.operands.toList → ∀ p o', ops[p]? = some o' → o'.dst = some t → p = k ∨ Before mask p k ∨ Before mask k p
  gd : ∀ k o j w, ops[k]? = some o → o.guard = some (j, w) → Before mask j k
  acts : ∀ k p, k < ops.size → p < k → actsA (B p).op = true → actsA (B k).op = true → (mask k).testBit p = true
  bars : ∀ k p, k < ops.size → p < ops.size → (B k).bar = .full → p ≠ k → pureA (B p).op = false → Before mask p k ∨ Before mask k p
  lasts : ∀ k, k < ops.size → (B k).bar = .last → (∃ j, k = j + 1 ∧ (mask k).testBit j = true ∧ H k = (H j).push ((H k).get (H j).n |>.getD .dead)) ∧
    ∀ p, k < p → p < ops.size → pureA (B p).op = false → (mask p).testBit k = true
  back : ∀ k o e, ops[k]? = some o → e ∈ o.after → Region.binds .any e = true → e.on < k

section
variable {P : Program} {call : Nat → List AV → AHeap → Option (AV × AHeap)} {ops : Array Oper} {vt : List Nat} {nt : Nat} {mask : Nat → Nat} {B : Nat → ARO}
    {H : Nat → AHeap} {V : Nat → AV} {VS : Nat → List AV} {k : Nat} {o : Oper}

/-- How an operation's guard was turned. -/
def GuardForm (ops : Array Oper) (k : Nat) (o : Oper) (b : ARO) : Prop :=
  (o.guard = none ∧ b.guard = none) ∨ ∃ j w t, o.guard = some (j, w) ∧ b.guard = some (k - 1 - j, w) ∧ j < k ∧ (ops[j]?).bind (·.dst) = some t
theorem dsOf_get {L : List Oper} {k d : Nat} {x : Option Nat} (hk : k ≤ L.length) (h : (dsOf L k)[d]? = some x) : d < k ∧ (L[k - 1 - d]?).map (·.dst) = some x := by
  unfold dsOf at h
  have hd : d < k := by
    have := (List.getElem?_eq_some_iff.1 h).1
    simp at this; omega
  refine ⟨hd, ?_⟩
  rw [List.getElem?_map, List.getElem?_reverse (by simp; omega)] at h
  have e : (L.take k).length - 1 - d = k - 1 - d := by simp; omega
  rw [e, List.getElem?_take_of_lt (by omega)] at h
  exact h
theorem size_of (ho : ops[k]? = some o) : k < ops.size := (Array.getElem?_eq_some_iff.1 ho).1

theorem Reg.form (R : Reg P call ops vt nt mask B H V VS) (ho : ops[k]? = some o) :
    (∃ op, cOp P vt (dsOf ops.toList k) o.op = some op ∧ (B k).op = op ∧ GuardForm ops k o (B k) ∧ wanted (rsOf V k) (B k).guard = some true ∧
      stepBar call (B k) (rsOf V k) (VS k) (H k) = some (V k, H (k + 1))) ∨
    (GuardForm ops k o (B k) ∧ wanted (rsOf V k) (B k).guard = some false ∧ V k = .tup [] ∧ H (k + 1) = H k) := by
  obtain ⟨h1, h2, _⟩ := R.b k o ho
  have hstep := (R.st k o ho).2
  have hbad : (B k).op = .bad → stepBar call (B k) (rsOf V k) (VS k) (H k) = none := by
    intro e; unfold stepBar; rw [e]; cases (B k).bar <;> simp [stepOp, aop]; split <;> rfl
  have hform : ((B k).op = .bad ∧ (B k).guard = none) ∨ ((B k).op = (cOp P vt (dsOf ops.toList k) o.op).getD .bad ∧ GuardForm ops k o (B k)) := by
    unfold cOper at h1 h2
    simp only at h1 h2
    cases hg : o.guard with
    | none => rw [hg] at h1 h2; exact .inr ⟨h1, .inl ⟨hg, h2⟩⟩
    | some g =>
      obtain ⟨j, w⟩ := g
      rw [hg] at h1 h2
      simp only at h1 h2
      split at h1
      · rename_i t hj ht
        rw [hj, ht] at h2
        refine .inr ⟨h1, .inr ⟨j, w, t, hg, h2, blt_iff.1 hj, ?_⟩⟩
        have hj := blt_iff.1 hj
        rw [List.getD_eq_getElem?_getD] at ht
        cases e : (dsOf ops.toList k)[k - 1 - j]? with
        | none => rw [e] at ht; cases ht
        | some x =>
          rw [e] at ht; simp at ht; subst ht
          obtain ⟨_, h3⟩ := dsOf_get (by have := size_of ho; simp; omega) e
          have : k - 1 - (k - 1 - j) = j := by omega
          rw [this, Array.getElem?_toList] at h3
          cases e2 : ops[j]? with
          | none => rw [e2] at h3; cases h3
          | some y => rw [e2] at h3; simpa using h3
      · rename_i hno
        refine .inl ⟨h1, ?_⟩
        split at h2
        · rename_i t hj ht; exact absurd ht (hno t hj)
        · exact h2
  rcases hform with ⟨e1, e2⟩ | ⟨e1, e2⟩
  · rcases hstep with ⟨_, h⟩ | ⟨h, _⟩
    · rw [hbad e1] at h; cases h
    · rw [e2] at h; simp [wanted] at h
  · rcases hstep with ⟨hw, h⟩ | ⟨hw, hv, hh⟩
    · cases hc : cOp P vt (dsOf ops.toList k) o.op with
      | none =>
        rw [hc] at e1
        rw [hbad e1] at h; cases h
      | some op => rw [hc] at e1; exact .inl ⟨op, rfl, e1, e2, hw, h⟩
    · exact .inr ⟨e2, hw, hv, hh⟩

theorem Reg.n_le (R : Reg P call ops vt nt mask B H V VS) (hk : k < ops.size) : (H k).n ≤ (H (k + 1)).n ∧ (H (k + 1)).lim = (H k).lim := by
  have ho : ops[k]? = some ops[k] := by simp [hk]
  rcases R.form ho with ⟨op, _, _, _, _, h⟩ | ⟨_, _, _, h⟩
  · obtain ⟨h1, h2, _⟩ := keep_stepBar R.hkeep h; exact ⟨h2, h1⟩
  · rw [h]; exact ⟨Nat.le_refl _, rfl⟩
theorem Reg.n_mono (R : Reg P call ops vt nt mask B H V VS) {i j : Nat} (hij : i ≤ j) (hj : j ≤ ops.size) : (H i).n ≤ (H j).n ∧ (H j).lim = (H i).lim := by
  induction j with
  | zero => have : i = 0 := by omega
            subst this; exact ⟨Nat.le_refl _, rfl⟩
  | succ j ih =>
    by_cases e : i = j + 1
    · subst e; exact ⟨Nat.le_refl _, rfl⟩
    · obtain ⟨h1, h2⟩ := ih (by omega) (by omega)
      obtain ⟨h3, h4⟩ := R.n_le (k := j) (by omega)
      exact ⟨Nat.le_trans h1 h3, h4.trans h2⟩

/-- A still operation's step. -/
theorem Reg.still (R : Reg P call ops vt nt mask B H V VS) (ha : actsA (B k).op = false) (h : stepBar call (B k) (rsOf V k) (VS k) (H k) = some (V k, H (k + 1))) :
    ∃ hh h1, HW (H k) hh ∧ aop (B k).op (rsOf V k) (VS k) hh = some (V k, h1) ∧ ((h1 = hh ∧ H (k + 1) = H k) ∨ ∃ o, h1 = hh.push o ∧ H (k + 1) = (H k).push o) := by
  have hno : ∀ f as, (B k).op ≠ .call f as := by
    intro f as e; rw [e] at ha; cases ha
  unfold stepBar at h
  split at h
  · rw [stepOp_aop hno] at h
    refine ⟨H k, H (k + 1), ⟨rfl, fun b => .refl _⟩, h, ?_⟩
    rcases aop_still ha h with e | ⟨o, e⟩
    · exact .inl ⟨e, e⟩
    · exact .inr ⟨o, e, e⟩
  · split at h
    · rename_i v h1 h2
      rw [stepOp_aop hno] at h2
      simp only [Option.some.injEq, Prod.mk.injEq] at h
      obtain ⟨rfl, h⟩ := h
      refine ⟨(H k).withLim (H k).n, h1, ⟨rfl, fun b => .refl _⟩, h2, ?_⟩
      rcases aop_still ha h2 with e | ⟨o, e⟩
      · exact .inl ⟨e, by rw [← h, e]; rfl⟩
      · exact .inr ⟨o, e, by rw [← h, e]; rfl⟩
    · cases h
  · split at h
    · split at h
      · rename_i v h1 h2
        rw [stepOp_aop hno] at h2
        simp only [Option.some.injEq, Prod.mk.injEq] at h
        obtain ⟨rfl, h⟩ := h
        refine ⟨(H k).withLim ((H k).n - 1), h1, ⟨rfl, fun b => .refl _⟩, h2, ?_⟩
        rcases aop_still ha h2 with e | ⟨o, e⟩
        · exact .inl ⟨e, by rw [← h, e]; rfl⟩
        · exact .inr ⟨o, e, by rw [← h, e]; rfl⟩
      · cases h
    · cases h
/-- A still operation, as far as the heap goes: run or not. -/
theorem Reg.still_heap (R : Reg P call ops vt nt mask B H V VS) (hk : k < ops.size) (ha : actsA (B k).op = false) : H (k + 1) = H k ∨ ∃ o, H (k + 1) = (H k).push o := by
  have ho : ops[k]? = some ops[k] := by simp [hk]
  rcases R.form ho with ⟨op, _, _, _, _, h⟩ | ⟨_, _, _, h⟩
  · obtain ⟨hh, h1, _, _, ⟨_, e⟩ | ⟨o, _, e⟩⟩ := R.still ha h
    · exact .inl e
    · exact .inr ⟨o, e⟩
  · exact .inl h
theorem Reg.still_get (R : Reg P call ops vt nt mask B H V VS) (hk : k < ops.size) (ha : actsA (B k).op = false) {b : Nat} (hb : b < (H k).n) : (H (k + 1)).get b = (H k).get b := by
  rcases R.still_heap hk ha with e | ⟨o, e⟩
  · rw [e]
  · rw [e, AHeap.get_push, if_neg (by omega)]
/-- An operation that leaves a block's contents. -/
def Quiet (B : Nat → ARO) (H : Nat → AHeap) (p b : Nat) : Prop := actsA (B p).op = false ∨ (B p).bar = .new ∨ ((B p).bar = .last ∧ b < (H p).n - 1)
/-- What stands nowhere in between leaves the contents of what was there. -/
theorem Reg.weak_step (R : Reg P call ops vt nt mask B H V VS) (hk : k < ops.size) {b : Nat} (hb : Quiet B H k b) (hlt : b < (H k).n) : WkO ((H k).get b) ((H (k + 1)).get b) := by
  cases ha : actsA (B k).op with
  | false => rw [R.still_get hk ha hlt]; exact .refl _
  | true =>
    have hbar : (B k).bar = .new ∨ ((B k).bar = .last ∧ b < (H k).n - 1) := by rcases hb with h | h; (rw [h] at ha; cases ha); exact h
    have ho : ops[k]? = some ops[k] := by simp [hk]
    rcases R.form ho with ⟨op, _, _, _, _, h⟩ | ⟨_, _, _, h⟩
    · unfold stepBar at h
      rcases hbar with hbar | ⟨hbar, hb1⟩
      · rw [hbar] at h
        simp only at h
        split at h
        · rename_i v h1 h2
          simp only [Option.some.injEq, Prod.mk.injEq] at h
          obtain ⟨_, h⟩ := h
          have := (keep_stepOp R.hkeep h2).wk (Nat.le_refl _) b hlt
          rw [← h]; exact this
        · cases h
      · rw [hbar] at h
        simp only at h
        split at h
        · split at h
          · rename_i v h1 h2
            simp only [Option.some.injEq, Prod.mk.injEq] at h
            obtain ⟨_, h⟩ := h
            have := (keep_stepOp R.hkeep h2).wk (by simp) b (by simpa using hb1)
            rw [← h]; exact this
          · cases h
        · cases h
    · rw [h]; exact .refl _
theorem Reg.weak_range (R : Reg P call ops vt nt mask B H V VS) {i j : Nat} (hij : i ≤ j) (hj : j ≤ ops.size) {b : Nat} (hb : ∀ p, i ≤ p → p < j → Quiet B H p b) (hlt : b < (H i).n) :
    WkO ((H i).get b) ((H j).get b) := by
  induction j with
  | zero => have : i = 0 := by omega
            subst this; exact .refl _
  | succ j ih =>
    by_cases e : i = j + 1
    · subst e; exact .refl _
    · have h1 := ih (by omega) (by omega) (fun p h1 h2 => hb p h1 (by omega))
      refine h1.trans (R.weak_step (by omega) (hb j (by omega) (by omega)) ?_)
      have := (R.n_mono (i := i) (j := j) (by omega) (by omega)).1
      omega
theorem Reg.still_range (R : Reg P call ops vt nt mask B H V VS) {i j : Nat} (hij : i ≤ j) (hj : j ≤ ops.size) (hb : ∀ p, i ≤ p → p < j → actsA (B p).op = false) {b : Nat} (hlt : b < (H i).n) :
    (H j).get b = (H i).get b := by
  induction j with
  | zero => have : i = 0 := by omega
            subst this; rfl
  | succ j ih =>
    by_cases e : i = j + 1
    · subst e; rfl
    · have h1 := ih (by omega) (by omega) (fun p h1 h2 => hb p h1 (by omega))
      rw [← h1]
      refine R.still_get (by omega) (hb j (by omega) (by omega)) ?_
      have := (R.n_mono (i := i) (j := j) (by omega) (by omega)).1
      omega
/-- A variable that no operation ahead has set is as it was. -/
theorem Reg.vars (R : Reg P call ops vt nt mask B H V VS) {j t : Nat} (hj : vt[j]? = some t) : ∀ {k : Nat}, k ≤ ops.size → j < (VS k).length ∨ k = 0 →
    (∀ p, p < k → (ops[p]?).bind (·.dst) ≠ some t) → nth (VS k) j = nth (VS 0) j
  | 0, _, _, _ => rfl
  | k + 1, hk, hl, hno => by
    have ho : ops[k]? = some ops[k] := by simp
    have hvs := (R.st k _ ho).1
    have hvar := (R.b k _ ho).2.2
    have hlen : (VS (k + 1)).length = (VS k).length := by
      rw [hvs]; cases (B k).var with
      | none => rfl
      | some i => exact setn_length _ _ _
    have hl' : j < (VS k).length := by rcases hl with h | h; (rw [hlen] at h; exact h); omega
    rw [← R.vars hj (k := k) (by omega) (.inl hl') (fun p hp => hno p (by omega)), hvs, hvar]
    cases hd : ops[k].dst with
    | none => rfl
    | some y =>
      have hne := hno k (by omega)
      rw [ho] at hne; simp only [Option.bind_some, hd] at hne
      simp only [varOf]
      cases hi : idxOf y vt with
      | none => rfl
      | some i =>
        simp only [setVar]
        rw [nth_setn _ _ _ _ hl']
        have h1 := idxOf_get hi
        have : j ≠ i := by rintro rfl; rw [hj] at h1; exact hne (by rw [h1])
        rw [if_neg this]
theorem Reg.vs_length (R : Reg P call ops vt nt mask B H V VS) : ∀ {k : Nat}, k ≤ ops.size → (VS k).length = (VS 0).length
  | 0, _ => rfl
  | k + 1, hk => by
    have ho : ops[k]? = some ops[k] := by simp
    rw [← R.vs_length (k := k) (by omega), (R.st k _ ho).1]
    cases (B k).var with
    | none => rfl
    | some i => exact setn_length _ _ _
/-- A variable that the p-th operation set, last of all. -/
theorem Reg.vars_set (R : Reg P call ops vt nt mask B H V VS) {j t p : Nat} (hj : vt[j]? = some t) (hp : (ops[p]?).bind (·.dst) = some t) (hl : j < (VS 0).length) : ∀ {k : Nat}, k ≤ ops.size → p < k →
    nth (VS k) j = V p
  | 0, _, h => by omega
  | k + 1, hk, hpk => by
    have ho : ops[k]? = some ops[k] := by simp
    have hvs := (R.st k _ ho).1
    have hvar := (R.b k _ ho).2.2
    have hl' : j < (VS k).length := by rw [R.vs_length (by omega)]; exact hl
    rw [hvs, hvar]
    by_cases e : p = k
    · subst e
      rw [ho] at hp; simp only [Option.bind_some] at hp
      rw [hp]
      simp only [varOf]
      cases hi : idxOf t vt with
      | none => exact absurd hj (idxOf_none hi j)
      | some i =>
        have : j = i := nodupN_inj R.nd _ _ _ hj (idxOf_get hi)
        subst this
        simp only [setVar]
        rw [nth_setn _ _ _ _ hl', if_pos rfl]
    · have ih := R.vars_set hj hp hl (k := k) (by omega) (by omega)
      rw [← ih]
      cases hd : ops[k].dst with
      | none => rfl
      | some y =>
        have hne : y ≠ t := by
          rintro rfl
          have h1 : (ops.toList.map (·.dst))[k]? = some (some y) := by rw [List.getElem?_map, Array.getElem?_toList, ho]; simp [hd]
          have h2 : (ops.toList.map (·.dst))[p]? = some (some y) := by
            rw [List.getElem?_map, Array.getElem?_toList]
            cases e2 : ops[p]? with
            | none => rw [e2] at hp; cases hp
            | some z => rw [e2] at hp; simpa using hp
          exact e (nodupDst_inj R.dd _ _ _ h2 h1)
        simp only [varOf]
        cases hi : idxOf y vt with
        | none => rfl
        | some i =>
          simp only [setVar]
          rw [nth_setn _ _ _ _ hl']
          have h1 := idxOf_get hi
          have : j ≠ i := by rintro rfl; rw [hj] at h1; injection h1 with h1; exact hne h1.symm
          rw [if_neg this]
end
end Go.Av
