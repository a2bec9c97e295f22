/- Regions that draw their order; what a call of the abstract machine says of a call of the model. -/
import Derived.Test.YtgnpkjfaekimcaaDoorAvStep2
set_option linter.unusedVariables false
set_option linter.unusedSimpArgs false
set_option linter.unusedSectionVars false
namespace Go.Av

def cntTo (f : Nat → Bool) : Nat → Nat
  | 0 => 0
  | n + 1 => cntTo f n + (if f n = true then 1 else 0)
theorem cntTo_zero {f : Nat → Bool} : ∀ {n : Nat}, cntTo f n = 0 → ∀ i, i < n → f i = false
  | 0, _, i, h => by omega
  | n + 1, h, i, hi => by
    simp only [cntTo] at h
    by_cases e : i = n
    · subst e
      cases hf : f i with
      | false => rfl
      | true => rw [hf] at h; simp at h
    · exact cntTo_zero (n := n) (by omega) i (by omega)
theorem cntTo_le {f g : Nat → Bool} : ∀ {n : Nat}, (∀ i, i < n → g i = true → f i = true) → cntTo g n ≤ cntTo f n
  | 0, _ => Nat.le_refl _
  | n + 1, h => by
    have ih := cntTo_le (f := f) (g := g) (n := n) fun i hi => h i (by omega)
    simp only [cntTo]
    cases hg : g n with
    | false => simp; omega
    | true => rw [h n (by omega) hg]; omega
theorem cntTo_lt {f g : Nat → Bool} : ∀ {n k : Nat}, k < n → (∀ i, i < n → g i = true → f i = true) → f k = true → g k = false → cntTo g n < cntTo f n
  | 0, k, h, _, _, _ => by omega
  | n + 1, k, hk, h, h1, h2 => by
    simp only [cntTo]
    by_cases e : k = n
    · subst e
      have := cntTo_le (f := f) (g := g) (n := k) fun i hi => h i (by omega)
      rw [h1, h2]; simp; omega
    · have ih := cntTo_lt (f := f) (g := g) (n := n) (k := k) (by omega) (fun i hi => h i (by omega)) h1 h2
      cases hg : g n with
      | false => simp; omega
      | true => rw [h n (by omega) hg]; omega

section
variable {P : Program} {call : Nat → List AV → AHeap → Option (AV × AHeap)} {ops : Array Oper} {vt : List Nat} {nt : Nat} {mask : Nat → Nat} {B : Nat → ARO}
    {H : Nat → AHeap} {V : Nat → AV} {VS : Nat → List AV}
variable {m0 : Mp} {w0 : World} {D : Nat → Prop} {c : Nat} {μ : Mp} {a : Act} {w : World} {Q : Exit → Act → World → Prop}

theorem Inv.fin (R : Reg P call ops vt nt mask B H V VS) (I : Inv P ops vt nt mask B H V VS m0 w0 D c μ a w) (hall : ∀ i, i < ops.size → D i) :
    ∃ m', FR m' vt nt (VS ops.size) a ∧ HR P m' (H ops.size) w ∧ Ext m0 (H 0) w0 m' (H ops.size) w := by
  have I := I.bump R (j := ops.size) I.c_le (Nat.le_refl _) fun p h1 h2 => by
    cases hpa : actsA (B p).op with
    | false => rfl
    | true => have := (I.act p h2 hpa).1 (hall p h2); omega
  have hmono := fun i (h : i ≤ ops.size) => R.n_mono (i := i) (j := ops.size) h (Nat.le_refl _)
  refine ⟨μ.below (H ops.size).n, ⟨I.size, I.defers, by rw [R.vs_length (Nat.le_refl _)]; exact I.vlen, fun j t hj => ?_⟩, I.hr, ?_⟩
  · have hjl : j < (VS 0).length := by rw [I.vlen]; exact (List.getElem?_eq_some_iff.1 hj).1
    by_cases hex : ∃ p : Nat, (ops[p]?).bind (·.dst) = some t
    · obtain ⟨p, hp⟩ := hex
      cases e : ops[p]? with
      | none => rw [e] at hp; cases hp
      | some o =>
        have hps := size_of e
        rw [R.vars_set hj hp hjl (Nat.le_refl _) hps]
        rw [e] at hp
        exact (I.vals p o t (hall p hps) e hp).mono (Mp.below_mono (Mp.Le.refl _) (hmono (p + 1) (by omega)).1)
    · rw [R.vars hj (Nat.le_refl _) (.inl (by rw [R.vs_length (Nat.le_refl _)]; exact hjl)) fun p _ h => hex ⟨p, h⟩]
      exact (I.vars j t hj fun i o _ ho h => hex ⟨i, by rw [ho]; exact h⟩).mono (I.le_below R (Nat.le_refl _))
  · refine ⟨⟨I.le_below R (Nat.le_refl _), fun b q hb hm => ?_, fun b h1 h2 => ?_⟩, I.chg, (hmono 0 (by omega)).1, (hmono 0 (by omega)).2, I.out⟩
    · obtain ⟨h1, h2⟩ := Mp.below_some.1 hb
      obtain ⟨h3, h4⟩ := I.new b q h2 hm
      exact ⟨h3, h1, h4⟩
    · have hfind : ∀ n, n ≤ ops.size → b < (H n).n → ∃ i, i < n ∧ (H i).n ≤ b ∧ b < (H (i + 1)).n := by
        intro n
        induction n with
        | zero => intro _ h; omega
        | succ n ih =>
          intro hn h
          by_cases e : b < (H n).n
          · obtain ⟨i, hi, h3⟩ := ih (by omega) e
            exact ⟨i, by omega, h3⟩
          · exact ⟨n, by omega, by omega, h⟩
      obtain ⟨i, hi, h3, h4⟩ := hfind ops.size (Nat.le_refl _) h2
      have := I.all i hi (hall i hi) b h3 h4
      unfold Mp.below
      rw [if_pos h2]; exact this

theorem all_listed (R : Reg P call ops vt nt mask B H V VS) {listed : Array Bool} (hs : listed.size = ops.size) (h : Region.ready .any ops listed = []) : ∀ i, i < ops.size → listed.getD i false = true := by
  intro i
  induction i using Nat.strongRecOn with
  | _ i ih =>
    intro hi
    cases e : listed.getD i false with
    | true => rfl
    | false =>
      exfalso
      have ho : ops[i]? = some ops[i] := by simp [hi]
      have hmem : i ∈ Region.ready .any ops listed := by
        rw [mem_ready]
        refine ⟨?_, ops[i], ho, fun e' he' hb => ?_⟩
        · have : i < listed.size := by omega
          simp [this] at e ⊢; exact e
        · have hlt := R.back i _ e' ho he' hb
          exact ih e'.on hlt (by omega)
      rw [h] at hmem; cases hmem

theorem draw_any (R : Reg P call ops vt nt mask B H V VS)
    (hQ : ∀ m' a' w', FR m' vt nt (VS ops.size) a' → HR P m' (H ops.size) w' → Ext m0 (H 0) w0 m' (H ops.size) w' → Q .normal a' w') :
    ∀ (fuel : Nat) (listed : Array Bool) (c : Nat) (μ : Mp) (a : Act) (w : World), listed.size = ops.size → cntTo (fun i => !listed.getD i false) ops.size ≤ fuel →
      Inv P ops vt nt mask B H V VS m0 w0 (fun i => listed.getD i false = true) c μ a w → wpAny P .any ops Q fuel listed a w := by
  have hend : ∀ (listed : Array Bool) (c : Nat) (μ : Mp) (a : Act) (w : World), Inv P ops vt nt mask B H V VS m0 w0 (fun i => listed.getD i false = true) c μ a w →
      (∀ i, i < ops.size → listed.getD i false = true) → Q .normal a w := by
    intro listed c μ a w I hall
    obtain ⟨m', h1, h2, h3⟩ := I.fin R hall
    exact hQ m' a w h1 h2 h3
  intro fuel
  induction fuel with
  | zero =>
    intro listed c μ a w hs hcnt I
    have hall : ∀ i, i < ops.size → listed.getD i false = true := fun i hi => by
      have := cntTo_zero (Nat.le_zero.1 hcnt) i hi
      simpa using this
    refine ⟨?_, hend listed c μ a w I hall⟩
    apply List.eq_nil_iff_forall_not_mem.2
    intro i hi
    obtain ⟨h1, o, ho, _⟩ := mem_ready.1 hi
    have hil := size_of ho
    have h2 := hall i hil
    have : i < listed.size := by omega
    simp [this] at h1 h2
    rw [h2] at h1; cases h1
  | succ fuel ih =>
    intro listed c μ a w hs hcnt I
    refine ⟨fun h => hend listed c μ a w I (all_listed R hs h), fun i hi => ?_⟩
    obtain ⟨h1, o, ho, hall⟩ := mem_ready.1 hi
    have hil := size_of ho
    have hil' : i < listed.size := by omega
    have hD : ¬ listed.getD i false = true := by
      simp [hil'] at h1 ⊢; exact h1
    refine I.one R hil hD ?_ fun c' μ' a' w' I' => ?_
    · intro p hp
      obtain ⟨e, he, hb, hlt, h | h⟩ := R.msk i o ho p hp
      · rw [h]; exact hall e he hb
      · exact I.closed e.on (by omega) (hall e he hb) p h
    · have hset : ∀ j, (listed.setIfInBounds i true).getD j false = true ↔ (listed.getD j false = true ∨ j = i) := by
        intro j
        by_cases e : j = i
        · subst e; simp [hil']
        · have : i ≠ j := Ne.symm e
          rw [getD_set_ne false this]; simp [e]
      refine ih _ c' μ' a' w' (by simp [hs]) ?_ ?_
      · have := cntTo_lt (f := fun j => !listed.getD j false) (g := fun j => !(listed.setIfInBounds i true).getD j false) (n := ops.size) (k := i) hil ?_ ?_ ?_
        · omega
        · intro j _ hj
          cases e : listed.getD j false with
          | false => rfl
          | true => rw [(hset j).2 (.inl e)] at hj; cases hj
        · simpa using hD
        · rw [(hset i).2 (.inr rfl)]; rfl
      · have : (fun j => (listed.setIfInBounds i true).getD j false = true) = (fun j => listed.getD j false = true ∨ j = i) := funext fun j => propext (hset j)
        rw [this]; exact I'
end

theorem pure_acts {op : AOp} (h : actsA op = true) : pureA op = false := by cases op <;> first | rfl | cases h

section
variable {P : Program} {call : Nat → List AV → AHeap → Option (AV × AHeap)} {vt : List Nat} {nt : Nat}

theorem tmpsOf_mem {t : Nat} : ∀ {l : List Operand}, Operand.tmp t ∈ l → t ∈ tmpsOf l
  | x :: l, h => by
    rcases List.mem_cons.1 h with e | h
    · subst e; simp [tmpsOf]
    · have := tmpsOf_mem h
      cases x <;> simp [tmpsOf, this]

theorem draw_run (hcall : CallOk P call) (hkeep : KeepOk call) (hmix : P.follows .mixedOrders = true) : DrawOk P call := by
  intro vt nt id ops as s s' hn hc he m a w Q hat hQ
  unfold cRegion at hc
  split at hc
  case h_2 => cases hc
  rename_i hdd hdb
  simp only at hc
  split at hc
  case h_2 => cases hc
  rename_i hok
  simp only [ACode.reg.injEq] at hc
  subst hc
  obtain ⟨H, V, VS, hH0, hV0, hHn, hVn, hst⟩ := runOps_trace he
  have hmask : (fun k => (masks ops.toList 0 []).getD (ops.toList.length - 1 - k) 0) = maskFn ops.toList := rfl
  rw [hmask] at hok he hst hHn hVn
  generalize hbs : withBars (barAt (maskFn ops.toList) (cOpers P vt ops.toList 0 [])) (cOpers P vt ops.toList 0 []) 0 = bs at hok hst hHn hVn
  have hblen : bs.length = ops.size := by rw [← hbs, withBars_length, cOpers_length]; simp
  rw [hblen] at hHn hVn
  have hcget : ∀ k o, ops[k]? = some o → (cOpers P vt ops.toList 0 [])[k]? = some (cOper P vt k (dsOf ops.toList k) o) := fun k o ho => by
    have := cOpers_get P vt ops.toList 0 [] k o (by rw [Array.getElem?_toList]; exact ho)
    simpa using this
  have hbget : ∀ k o, ops[k]? = some o → bs[k]? = some (ARO.mk (cOper P vt k (dsOf ops.toList k) o).op (cOper P vt k (dsOf ops.toList k) o).guard (cOper P vt k (dsOf ops.toList k) o).var
      (barAt (maskFn ops.toList) (cOpers P vt ops.toList 0 []) k)) := fun k o ho => by
    have := withBars_get (barAt (maskFn ops.toList) (cOpers P vt ops.toList 0 [])) _ 0 k _ (hcget k o ho)
    rw [← hbs]; simpa using this
  let B : Nat → ARO := fun k => bs.getD k ⟨.bad, none, none, .full⟩
  have hB : ∀ k o, ops[k]? = some o → bs[k]? = some (B k) ∧ (B k).op = (cOper P vt k (dsOf ops.toList k) o).op ∧ (B k).guard = (cOper P vt k (dsOf ops.toList k) o).guard ∧
      (B k).var = (cOper P vt k (dsOf ops.toList k) o).var ∧ (B k).bar = barAt (maskFn ops.toList) (cOpers P vt ops.toList 0 []) k := fun k o ho => by
    have h1 := hbget k o ho
    have : B k = ARO.mk (cOper P vt k (dsOf ops.toList k) o).op (cOper P vt k (dsOf ops.toList k) o).guard (cOper P vt k (dsOf ops.toList k) o).var
      (barAt (maskFn ops.toList) (cOpers P vt ops.toList 0 []) k) := by show bs.getD k _ = _; rw [List.getD_eq_getElem?_getD, h1]; rfl
    exact ⟨by rw [h1, this], by rw [this], by rw [this], by rw [this], by rw [this]⟩
  have hor : ∀ k p, ordered (maskFn ops.toList) p k = true → Before (maskFn ops.toList) p k ∨ Before (maskFn ops.toList) k p := by
    intro k p h
    simp only [ordered, Bool.or_eq_true, Bool.and_eq_true] at h
    rcases h with h | h
    · exact .inl ⟨blt_iff.1 h.1, h.2⟩
    · exact .inr ⟨blt_iff.1 h.1, h.2⟩
  have hbars : ∀ k p, k < ops.size → p < ops.size → (B k).bar = .full → p ≠ k → pureA (B p).op = false → Before (maskFn ops.toList) p k ∨ Before (maskFn ops.toList) k p := by
    intro k p hk hp hbar hne hpu
    have hok' : ops[k]? = some ops[k] := by simp [hk]
    have hop' : ops[p]? = some ops[p] := by simp [hp]
    rw [(hB k _ hok').2.2.2.2] at hbar
    unfold barAt at hbar
    split at hbar
    case h_2 => split at hbar <;> cases hbar
    rename_i hbar1
    clear hbar
    have hbar := hbar1
    unfold fullAt at hbar
    rw [List.all_eq_true] at hbar
    have h1 := hcget p _ hop'
    have := hbar (cOper P vt p (dsOf ops.toList p) ops[p], p) (by rw [List.mem_zipIdx_iff_getElem?]; exact h1)
    simp only [Bool.or_eq_true] at this
    rcases this with (h | h) | h
    · exact absurd (beq_iff.1 h) hne
    · rw [← (hB p _ hop').2.1, hpu] at h; cases h
    · exact hor k p h
  unfold drawOk at hok
  rw [List.all_eq_true] at hok
  have hall : ∀ k o, ops[k]? = some o → backward k o.after.toList = true ∧ looksOk (ops.toList.map (·.dst)) (maskFn ops.toList) k (tmpsOf o.op.operands.toList) = true ∧
      (∀ j w, o.guard = some (j, w) → Before (maskFn ops.toList) j k) ∧
      (((match bs[k]? with | some a => a.bar.isFull || !actsA a.op | none => false) || (bs.zipIdx.all fun (a, p) => !actsA a.op || !Nat.blt p k || ((maskFn ops.toList) k).testBit p)) = true) := by
    intro k o ho
    have := hok (o, k) (by rw [List.mem_zipIdx_iff_getElem?, Array.getElem?_toList]; exact ho)
    simp only [Bool.and_eq_true] at this
    obtain ⟨⟨⟨h1, h2⟩, h3⟩, h4⟩ := this
    refine ⟨h1, h2, fun j w hg => ?_, h4⟩
    rw [hg] at h3
    simp only [Bool.and_eq_true] at h3
    exact ⟨blt_iff.1 h3.1, h3.2⟩
  have hstk : ∀ k o, ops[k]? = some o → StepAt call (B k) (rsOf V k) (VS k) (H k) (V k) (VS (k + 1)) (H (k + 1)) := fun k o ho => by
    have := hst k _ (hB k o ho).1
    simpa using this
  have hlasts : ∀ k, k < ops.size → (B k).bar = .last → (∃ j, k = j + 1 ∧ (maskFn ops.toList k).testBit j = true ∧ H k = (H j).push ((H k).get (H j).n |>.getD .dead)) ∧
      ∀ p, k < p → p < ops.size → pureA (B p).op = false → (maskFn ops.toList p).testBit k = true := by
    intro k hk hbar
    have hok' : ops[k]? = some ops[k] := by simp [hk]
    rw [(hB k _ hok').2.2.2.2] at hbar
    unfold barAt at hbar
    split at hbar
    · cases hbar
    split at hbar
    case h_2 => cases hbar
    rename_i hl
    cases k with
    | zero => cases hl
    | succ j =>
      have hoj : ops[j]? = some ops[j] := by simp [Nat.lt_trans (Nat.lt_succ_self j) hk]
      simp only [lastAt, Bool.and_eq_true, hcget j _ hoj] at hl
      obtain ⟨⟨⟨h1, h2⟩, h3⟩, h4⟩ := hl
      refine ⟨⟨j, rfl, h3, ?_⟩, fun p hp hps hpu => ?_⟩
      · obtain ⟨_, e1, e2, _, _⟩ := hB j _ hoj
        have hs := (hstk j _ hoj).2
        cases hop : (cOper P vt j (dsOf ops.toList j) ops[j]).op <;> rw [hop] at h1 <;> (try cases h1)
        rename_i x
        rw [hop] at e1
        have hg : (B j).guard = none := by
          rw [e2]
          generalize cOper P vt j (dsOf ops.toList j) ops[j] = y at h2
          obtain ⟨_, _ | _, _, _⟩ := y
          · rfl
          · cases h2
        rw [hg] at hs
        have hpush : ∀ hh v h1, aop (.box x) (rsOf V j) (VS j) hh = some (v, h1) → ∃ ob, h1 = hh.push ob := by
          intro hh v h1 e
          simp only [aop] at e
          split at e
          · simp only [Option.some.injEq, Prod.mk.injEq] at e
            exact ⟨_, e.2.symm⟩
          · cases e
        have : ∃ ob, H (j + 1) = (H j).push ob := by
          rcases hs with ⟨_, hs⟩ | ⟨hw, _⟩
          · unfold stepBar at hs
            rw [e1] at hs
            split at hs
            · exact hpush _ _ _ hs
            · simp only [stepOp] at hs
              split at hs
              · rename_i v h1 h2
                simp only [Option.some.injEq, Prod.mk.injEq] at hs
                obtain ⟨ob, e⟩ := hpush _ _ _ h2
                exact ⟨ob, by rw [← hs.2, e]; rfl⟩
              · cases hs
            · split at hs
              · simp only [stepOp] at hs
                split at hs
                · rename_i v h1 h2
                  simp only [Option.some.injEq, Prod.mk.injEq] at hs
                  obtain ⟨ob, e⟩ := hpush _ _ _ h2
                  exact ⟨ob, by rw [← hs.2, e]; rfl⟩
                · cases hs
              · cases hs
          · simp [wanted] at hw
        obtain ⟨ob, e⟩ := this
        rw [e, AHeap.get_push, if_pos rfl]; rfl
      · rw [List.all_eq_true] at h4
        have hop : ops[p]? = some ops[p] := by simp [hps]
        have := h4 (cOper P vt p (dsOf ops.toList p) ops[p], p) (by rw [List.mem_zipIdx_iff_getElem?]; exact hcget p _ hop)
        simp only [Bool.or_eq_true] at this
        rcases this with (h | h) | h
        · have := ble_iff.1 h; omega
        · rw [← (hB p _ hop).2.1, hpu] at h; cases h
        · exact h
  have R : Reg P call ops vt nt (maskFn ops.toList) B H V VS := by
    refine ⟨hcall, hkeep, hn, hdd, hdb, ?_, ?_, ?_, ?_, ?_, ?_, hbars, hlasts, ?_⟩
    · intro k o ho
      obtain ⟨_, h1, h2, h3, _⟩ := hB k o ho
      refine ⟨h1, h2, ?_⟩
      rw [h3]
      unfold cOper varOf
      simp only
      split
      · rfl
      · split <;> rfl
    · intro k o ho
      have := hst k _ (hB k o ho).1
      simpa using this
    · intro k o ho p hp
      exact mask_bit (by rw [Array.getElem?_toList]; exact ho) (hall k o ho).1 hp
    · intro k o ho t ht p o' ho' hd
      have h2 := (hall k o ho).2.1
      unfold looksOk at h2
      rw [List.all_eq_true] at h2
      have h3 := h2 t (tmpsOf_mem ht)
      rw [List.all_eq_true] at h3
      have h4 := h3 (some t, p) (by rw [List.mem_zipIdx_iff_getElem?, List.getElem?_map, Array.getElem?_toList, ho']; simp [hd])
      simp only [Bool.or_eq_true, Bool.not_eq_true', Bool.and_eq_true] at h4
      rcases h4 with ((h | h) | h) | h
      · have : Nat.beq t t = true := beq_iff.2 rfl
        rw [this] at h; cases h
      · exact .inl (beq_iff.1 h)
      · exact .inr (.inl ⟨blt_iff.1 h.1, h.2⟩)
      · exact .inr (.inr ⟨blt_iff.1 h.1, h.2⟩)
    · intro k o j w ho hg
      exact (hall k o ho).2.2.1 j w hg
    · intro k p hk hpk hpa hka
      have ho : ops[k]? = some ops[k] := by simp [hk]
      have hop : ops[p]? = some ops[p] := by simp [Nat.lt_trans hpk hk]
      have h4 := (hall k _ ho).2.2.2
      rw [(hB k _ ho).1] at h4
      simp only [Bool.or_eq_true, hka, Bool.not_true, Bool.or_false] at h4
      rcases h4 with h4 | h4
      · rcases hbars k p hk (by omega) (by revert h4; cases (B k).bar <;> simp [Bar.isFull]) (by omega) (pure_acts hpa) with h | h
        · exact h.2
        · have := h.1; omega
      · rw [List.all_eq_true] at h4
        have h5 := h4 (B p, p) (by rw [List.mem_zipIdx_iff_getElem?]; exact (hB p _ hop).1)
        simp only [hpa, Bool.not_true, Bool.false_or, Bool.or_eq_true, Bool.not_eq_true'] at h5
        rcases h5 with h5 | h5
        · have := blt_iff.2 hpk; rw [this] at h5; cases h5
        · exact h5
    · intro k o e ho he hb
      have h1 := (hall k o ho).1
      have hlt : ∀ (es : List Edge), backward k es = true → ∀ e ∈ es, Region.binds .any e = true → e.on < k := by
        intro es
        induction es with
        | nil => intro _ e he; simp at he
        | cons x es ih =>
          intro hb e he hbd
          simp only [backward, Bool.and_eq_true, Bool.or_eq_true, Bool.not_eq_true'] at hb
          rcases List.mem_cons.1 he with rfl | he
          · rcases hb.1 with h | h
            · rw [h] at hbd; cases hbd
            · exact blt_iff.1 h
          · exact ih hb.2 e he hbd
      exact hlt _ h1 e (by simpa using he) hb
  have hbel : m.below (H 0).n = m := by
    funext b
    unfold Mp.below
    split
    · rfl
    · rename_i hlt
      cases e : m b with
      | none => rfl
      | some q => rw [hH0] at hlt; exact absurd (hat.hr.cr b q e).1 hlt
  have hno : ∀ i, ¬ (Array.replicate ops.size false).getD i false = true := by
    intro i
    simp only [Array.getD_eq_getD_getElem?, Array.getElem?_replicate]
    split <;> simp
  refine wp_region_any hmix (draw_any R (m0 := m) (w0 := w) ?_ ops.size (Array.replicate ops.size false) 0 m a { w with drawn := w.drawn + 1 } (by simp) ?_ ?_)
  · intro m' a' w' h1 h2 h3
    rw [hVn] at h1; rw [hHn] at h2 h3; rw [hH0] at h3
    exact hQ m' a' w' ⟨h1, h2⟩ h3
  · have : ∀ (f : Nat → Bool) n, cntTo f n ≤ n := by
      intro f n
      induction n with
      | zero => exact Nat.le_refl _
      | succ n ih => simp only [cntTo]; split <;> omega
    exact this _ _
  · have hhr : HR P (m.below (H 0).n) (H 0) { w with drawn := w.drawn + 1 } := by
      rw [hbel, hH0]
      exact ⟨hat.hr.cr.drawn rfl, hat.hr.sep, hat.hr.glob, hat.hr.prev⟩
    refine ⟨Nat.zero_le _, fun p _ _ => ⟨fun h => absurd h (hno p), fun h => by omega⟩, fun k _ h => absurd h (hno k), hhr, ?_, ?_, fun i _ h => absurd h (hno i), fun i _ _ h => absurd h (hno i), ?_, Mp.Le.refl _, ?_, hat.hr.glob,
      by rw [hV0]; exact hat.fr.len, hat.fr.size, hat.fr.defers, fun i h => by omega, fun i h => by omega, ?_, ?_, fun _ _ _ => rfl⟩
    · intro b q hb hge
      have := (hat.hr.cr b q hb).1
      rw [hH0] at hge; omega
    · intro i hi _ b h1 _
      cases e : m b with
      | none => rfl
      | some q =>
        have := (hat.hr.cr b q e).1
        have h2 := (R.n_mono (i := 0) (j := i) (by omega) (by omega)).1
        rw [hH0] at h2; omega
    · intro j t hj _
      rw [hV0]; exact hat.fr.var j t hj
    · intro b q hb; rw [hH0]; exact (hat.hr.cr b q hb).1
    · exact ⟨rfl, rfl, rfl, Nat.le_refl _, fun _ _ _ => rfl⟩
    · intro b q hb hm; rw [hm] at hb; cases hb

/-- Calls of the abstract machine stand for calls of the model. -/
theorem acall_sound {fns : Nat → Option AFunc} {lf : Nat} (hf : FnsOk P fns) (hmix : P.follows .mixedOrders = true) (d : Nat) : CallOk P (acall fns lf d) :=
  acall_ok hf (fun d hc => draw_run hc (keep_acall d) hmix) d
end
end Go.Av
