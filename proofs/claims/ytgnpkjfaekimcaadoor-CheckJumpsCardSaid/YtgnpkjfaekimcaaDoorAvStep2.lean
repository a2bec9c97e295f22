/- A region that draws its order: the operations run. -/
import Derived.Test.YtgnpkjfaekimcaaDoorAvStep
set_option linter.unusedVariables false
set_option linter.unusedSimpArgs false
set_option linter.unusedSectionVars false
namespace Go.Av
section
variable {P : Program} {call : Nat → List AV → AHeap → Option (AV × AHeap)} {ops : Array Oper} {vt : List Nat} {nt : Nat} {mask : Nat → Nat} {B : Nat → ARO}
    {H : Nat → AHeap} {V : Nat → AV} {VS : Nat → List AV} {k : Nat} {o : Oper}
variable {m0 : Mp} {w0 : World} {D : Nat → Prop} {c : Nat} {μ : Mp} {a : Act} {w : World}

/-- An acting operation, at its turn. -/
theorem Inv.acted (R : Reg P call ops vt nt mask B H V VS) (I : Inv P ops vt nt mask B H V VS m0 w0 D k μ a w) (ho : ops[k]? = some o) (hD : ¬ D k) (hrdy : ∀ p, (mask k).testBit p = true → D p)
    {cv : Value} {w' : World} {m' : Mp} (hA : Acted P (μ.below (H k).n) (H k) w (V k) (H (k + 1)) cv w' m') :
    Inv P ops vt nt mask B H V VS m0 w0 (fun i => D i ∨ i = k) (k + 1) (fun b => if b < (H (k + 1)).n then m' b else μ b) (a.put o.dst cv) w' := by
  have hk := size_of ho
  have hnn := (R.n_le hk).1
  have hold : ∀ b, b < (H k).n → m' b = μ b := fun b hb => by
    cases hm : μ b with
    | some q => exact hA.grow.le _ _ (Mp.below_some.2 ⟨hb, hm⟩)
    | none =>
      cases hm' : m' b with
      | none => rfl
      | some q =>
        have := (hA.grow.new b q hm' (by unfold Mp.below; simp [hm])).1
        omega
  have hgap : ∀ b, (H k).n ≤ b → b < (H (k + 1)).n → μ b = none := I.gap k hk hD
  let μ' : Mp := fun b => if b < (H (k + 1)).n then m' b else μ b
  have hμ1 : ∀ b, b < (H k).n → μ' b = μ b := fun b hb => by
    show (if b < (H (k + 1)).n then m' b else μ b) = μ b
    rw [if_pos (by omega)]; exact hold b hb
  have hμ2 : ∀ b, b < (H (k + 1)).n → μ' b = m' b := fun b hb => if_pos hb
  have hμ3 : ∀ b, (H (k + 1)).n ≤ b → μ' b = μ b := fun b hb => if_neg (by omega)
  have hle : μ.Le μ' := fun b q hb => by
    by_cases e : b < (H k).n
    · rw [hμ1 b e]; exact hb
    · by_cases e2 : b < (H (k + 1)).n
      · rw [hgap b (by omega) e2] at hb; cases hb
      · rw [hμ3 b (by omega)]; exact hb
  have hbel : μ'.below (H (k + 1)).n = m' := by
    funext b
    unfold Mp.below
    split
    · rename_i h; exact hμ2 b h
    · cases hm' : m' b with
      | none => rfl
      | some q => have := (hA.hr.cr b q hm').1; omega
  obtain ⟨p1, p2, p3, p4⟩ := I.put R ho hle (by rw [hbel]; exact hA.vr)
  have hnew : ∀ b q, μ' b = some q → μ b = some q ∨ (μ b = none ∧ (H k).n ≤ b ∧ b < (H (k + 1)).n ∧ (w.heap.size ≤ q.blk ∨ ∃ c r, (μ.below (H k).n) c = some r ∧ r.blk = q.blk ∧ r.own = true)) := by
    intro b q hb
    cases hm : μ b with
    | some r => left; have := hle _ _ hm; rw [hb] at this; exact this.symm
    | none =>
      right
      by_cases e : b < (H (k + 1)).n
      · rw [hμ2 b e] at hb
        have := hA.grow.new b q hb (by unfold Mp.below; simp [hm])
        exact ⟨rfl, this.1, e, this.2.2⟩
      · rw [hμ3 b (by omega), hm] at hb; cases hb
  refine ⟨hk, ?_, I.closed' hrdy, ?_, ?_, ?_, ?_, p1, p2, I.le0.trans hle, I.dom0, I.glob0, I.vlen, p3, p4, ?_, ?_, ?_, ?_, ?_⟩
  · intro p hp hpa
    rw [I.act p hp hpa]; omega
  · show HR P (μ'.below (H (k + 1)).n) (H (k + 1)) w'
    rw [hbel]; exact hA.hr
  · intro b q hb hge
    have hb : μ' b = some q := hb
    rw [hμ3 b hge] at hb
    obtain ⟨i, o', h1, h2, h3, h4, h5, h6, h7, h8, h9⟩ := I.ext b q hb (by omega)
    have hik : i ≠ k := by rintro rfl; exact hD h1
    have hsame : w'.heap[q.blk]? = w.heap[q.blk]? := hA.chg.same _ h8 fun b' q' hb' _ => by
      have := Mp.below_some.1 hb'
      exact h9 b' q' this.2 (by omega)
    refine ⟨i, o', .inl h1, by omega, h3, h4, h5, (h6.same hsame).mono (Mp.below_mono hle (Nat.le_refl _)), h7, Nat.lt_of_lt_of_le h8 hA.chg.size, ?_⟩
    intro b' q' hb' hne
    rcases hnew b' q' hb' with h | ⟨_, _, _, h | ⟨c', r, hc', hr, _⟩⟩
    · exact h9 b' q' h hne
    · omega
    · rw [← hr]
      have := Mp.below_some.1 hc'
      exact h9 c' r this.2 (by omega)
  · intro i hi hDi b h1 h2
    have hik : i ≠ k := fun e => hDi (.inr e)
    have hg := I.gap i hi (fun h => hDi (.inl h)) b h1 h2
    show μ' b = none
    rcases Nat.lt_or_gt_of_ne hik with h | h
    · have := (R.n_mono (i := i + 1) (j := k) (by omega) (by omega)).1
      rw [hμ1 b (by omega)]; exact hg
    · have := (R.n_mono (i := k + 1) (j := i) (by omega) (by omega)).1
      rw [hμ3 b (by omega)]; exact hg
  · intro i hi hDi b h1 h2
    show (μ' b).isSome = true
    rcases hDi with h | rfl
    · cases hm : μ b with
      | none => have := I.all i hi h b h1 h2; rw [hm] at this; cases this
      | some q => rw [hle _ _ hm]; rfl
    · rw [hμ2 b h2]; exact hA.grow.all b h1 h2
  · intro i hi hDi b h1 h2
    have hik : i ≠ k := fun e => hDi (.inr e)
    have hDi' : ¬ D i := fun h => hDi (.inl h)
    have hik' : i < k := by omega
    have hb : b < (H k).n := by have := (R.n_mono (i := i + 1) (j := k) (by omega) (by omega)).1; omega
    rw [hA.out b hb (by unfold Mp.below; rw [if_pos hb]; exact I.gap i (by omega) hDi' b h1 h2)]
    exact I.late i hik' hDi' b h1 h2
  · intro i hi hDi b hb hs
    have hik : i ≠ k := fun e => hDi (.inr e)
    have hDi' : ¬ D i := fun h => hDi (.inl h)
    have hik' : i < k := by omega
    have := (R.n_mono (i := i) (j := k) (by omega) (by omega)).1
    have hs : (μ' b).isSome = true := hs
    rw [hμ1 b (by omega)] at hs
    exact I.wf i hik' hDi' b hb hs
  · refine ⟨hA.chg.os.trans I.chg.os, hA.chg.tape.trans I.chg.tape, hA.chg.output.trans I.chg.output, Nat.le_trans I.chg.size hA.chg.size, fun r hr hm => ?_⟩
    rw [← I.chg.same r hr hm]
    refine hA.chg.same r (Nat.lt_of_lt_of_le hr I.chg.size) fun b q hb hown => ?_
    have hb := (Mp.below_some.1 hb).2
    cases hmb : m0 b with
    | some q' =>
      have := I.le0 _ _ hmb
      rw [hb] at this; injection this with this; subst this
      exact hm _ _ hmb hown
    | none =>
      obtain ⟨_, h | ⟨c', r', hc', he, ho'⟩⟩ := I.new b q hb hmb
      · omega
      · rw [← he]; exact hm _ _ hc' ho'
  · intro b q hb hm
    rcases hnew b q hb with h | ⟨_, h1, _, h2⟩
    · exact I.new b q h hm
    · refine ⟨by have := (R.n_mono (i := 0) (j := k) (by omega) (by omega)).1; omega, ?_⟩
      rcases h2 with h2 | ⟨c', r, hc', hr, ho'⟩
      · exact .inl (by have := I.chg.size; omega)
      · have hc2 := (Mp.below_some.1 hc').2
        cases hmc : m0 c' with
        | some r' =>
          have := I.le0 _ _ hmc
          rw [hc2] at this; injection this with this; subst this
          exact .inr ⟨c', _, hmc, hr, ho'⟩
        | none =>
          obtain ⟨_, h | ⟨c2, r2, hc2', he, ho2⟩⟩ := I.new c' r hc2 hmc
          · exact .inl (by omega)
          · exact .inr ⟨c2, r2, hc2', he.trans hr, ho2⟩
  · intro b hb hm
    have h0k := (R.n_mono (i := 0) (j := k) (by omega) (by omega)).1
    have hμb : μ b = none := by
      cases e : μ b with
      | none => rfl
      | some q => have := (I.new b q e hm).1; omega
    rw [hA.out b (by omega) (by unfold Mp.below; simp [hμb])]
    exact I.out b hb hm

/-- The contents that a still operation may look at. -/
theorem Inv.weakCR (R : Reg P call ops vt nt mask B H V VS) (I : Inv P ops vt nt mask B H V VS m0 w0 D c μ a w) (hk : k < ops.size) (hD : ¬ D k) (hrdy : ∀ p, (mask k).testBit p = true → D p)
    (hpu : pureA (B k).op = false) (ha : actsA (B k).op = false) : CR (μ.below (H k).n) (H k).weak w := by
  have hcs := I.c_le
  have hfree : ∀ p, p < ops.size → p ≠ k → actsA (B p).op = true → (p < k → ¬ D p) → (k < p → D p) → ∀ b, b < (H k).n → (p < k → b < (H p).n) → Quiet B H p b := by
    intro p hp hne hpa h1 h2 b hb1 hb2
    cases hpb : (B p).bar with
    | new => exact .inr (.inl hpb)
    | full =>
      exfalso
      rcases R.bars p k hp hk hpb (Ne.symm hne) hpu with h | h
      · exact hD (I.closed p hp (h2 h.1) k h.2)
      · exact h1 h.1 (hrdy p h.2)
    | last =>
      obtain ⟨⟨j, rfl, hm, hj⟩, hbh⟩ := R.lasts p hp hpb
      rcases Nat.lt_or_gt_of_ne hne with hlt | hlt
      · exact absurd (hrdy _ (hbh k hlt hk hpu)) (h1 hlt)
      · have hne : j ≠ k := by rintro rfl; exact hD (I.closed _ hp (h2 hlt) _ hm)
        refine .inr (.inr ⟨hpb, ?_⟩)
        have h3 := (R.n_mono (i := k) (j := j) (by omega) (by omega)).1
        rw [hj]; simp; omega
  have hback : ∀ p, c ≤ p → p < k → ∀ b, b < (H p).n → Quiet B H p b := fun p h1 h2 b hb => by
    cases hpa : actsA (B p).op with
    | false => exact .inl hpa
    | true =>
      have := (R.n_mono (i := p) (j := k) (by omega) (by omega)).1
      exact hfree p (by omega) (by omega) hpa (fun _ h => by have := (I.act p (by omega) hpa).1 h; omega) (fun h => by omega) b (by omega) (fun _ => hb)
  intro b q hb
  obtain ⟨hbk, hb⟩ := Mp.below_some.1 hb
  refine ⟨hbk, I.blk_lt hb, ?_⟩
  rw [AHeap.get_weak]
  by_cases e : b < (H c).n
  · obtain ⟨_, _, ob, hg, hor⟩ := I.hr.cr b q (Mp.below_some.2 ⟨e, hb⟩)
    by_cases hck : c ≤ k
    · have hw := R.weak_range hck (by omega) (fun p h1 h2 => hback p h1 h2 b (by have := (R.n_mono (i := c) (j := p) h1 (by omega)).1; omega)) e
      rw [hg] at hw
      generalize (H k).get b = x at hw
      cases hw with
      | some hw => exact ⟨_, rfl, (hor.weak hw).mono (Mp.below_mono (Mp.Le.refl _) (R.n_mono hck (by omega)).1)⟩
    · have hw := R.weak_range (i := k) (j := c) (by omega) hcs (b := b) (fun p h1 h2 => by
        cases hpa : actsA (B p).op with
        | false => exact .inl hpa
        | true =>
          have hpk : p ≠ k := by rintro rfl; rw [ha] at hpa; cases hpa
          exact hfree p (by omega) hpk hpa (fun h => by omega) (fun _ => (I.act p (by omega) hpa).2 h2) b hbk (fun h => by omega)) hbk
      obtain ⟨o1, hg1, hwf⟩ := I.wf k (by omega) hD b hbk (by rw [hb]; rfl)
      rw [hg, hg1] at hw
      rw [hg1]
      cases hw with
      | some hw => exact ⟨_, rfl, ((hor.cut hw.symm hwf).mono (Mp.below_mono (Mp.below_le _ _) (Nat.le_refl _)))⟩
  · obtain ⟨i, o', h1, h2, h3, h4, h5, h6, h7, h8, h9⟩ := I.ext b q hb (by omega)
    have hik : i < k := by
      apply Classical.byContradiction
      intro h; have := (R.n_mono (i := k) (j := i) (by omega) (by omega)).1; omega
    have hb5 : b < (H (i + 1)).n := by rw [h5]; simp; omega
    have hw := R.weak_range (i := i + 1) (j := k) (by omega) (by omega) (b := b) (fun p h1 h2 => hback p (by omega) h2 b (by have := (R.n_mono (i := i + 1) (j := p) h1 (by omega)).1; omega)) hb5
    rw [h5, AHeap.get_push, if_pos h4] at hw
    generalize (H k).get b = x at hw
    cases hw with
    | some hw => exact ⟨_, rfl, (h6.weak hw).mono (Mp.below_mono (Mp.Le.refl _) (R.n_mono (by omega) (by omega)).1)⟩
theorem Inv.deadCR (I : Inv P ops vt nt mask B H V VS m0 w0 D c μ a w) (n : Nat) : CR (μ.below n) (deadHeap n) w := by
  intro b q hb
  obtain ⟨h1, h2⟩ := Mp.below_some.1 hb
  exact ⟨by rw [deadHeap_n]; exact h1, I.blk_lt h2, .dead, deadHeap_get _ _ h1, .dead⟩

variable {K : Act → World → Prop} {Q : Exit → Act → World → Prop}

theorem push_inj {h : AHeap} {o o' : AObj} (e : h.push o = h.push o') : o = o' := by
  have := congrArg (fun x => x.get h.n) e
  simp only [AHeap.get_push, if_true] at this
  exact Option.some.inj this
theorem push_ne {h : AHeap} {o : AObj} (e : h.push o = h) : False := by
  have := congrArg AHeap.n e
  simp at this

/-- A still operation is run. -/
theorem Inv.still_wp (R : Reg P call ops vt nt mask B H V VS) (I : Inv P ops vt nt mask B H V VS m0 w0 D c μ a w) (ho : ops[k]? = some o) (hD : ¬ D k) (hrdy : ∀ p, (mask k).testBit p = true → D p)
    (ha : actsA (B k).op = false) (hc : cOp P vt (dsOf ops.toList k) o.op = some (B k).op) (hst : stepBar call (B k) (rsOf V k) (VS k) (H k) = some (V k, H (k + 1)))
    (hK : ∀ c' μ' cv w', Inv P ops vt nt mask B H V VS m0 w0 (fun i => D i ∨ i = k) c' μ' (a.put o.dst cv) w' → K (a.put o.dst cv) w') : o.wp P a w K Q := by
  have hk := size_of ho
  have hops := I.opsOk R ho hD hrdy
  obtain ⟨hh, h1, hw, he, hdich⟩ := R.still ha hst
  -- the heap that the operation is shown
  have main : ∀ (hX hX' : AHeap), hX.n = (H k).n → CR (μ.below (H k).n) hX w → aop (B k).op (rsOf V k) (VS k) hX = some (V k, hX') →
      ((hX' = hX ∧ H (k + 1) = H k) ∨ ∃ ob, hX' = hX.push ob ∧ H (k + 1) = (H k).push ob ∧ pureA (B k).op = false) → o.wp P a w K Q := by
    intro hX hX' hn hcr heX hdX
    obtain ⟨cv, w', m', hr, hs⟩ := still_run hc ha heX hcr hops
    unfold Oper.wp
    rw [hr, Oper.upon_value]
    cases hs with
    | same e1 e2 e3 hv =>
      rcases hdX with ⟨_, e⟩ | ⟨ob, e, _⟩
      · obtain ⟨c', I'⟩ := I.same R ho hD hrdy e hv (.inl ha)
        rw [e2]
        exact hK c' μ cv w I'
      · rw [e1] at e; exact (push_ne e.symm).elim
    | made ob' cap e1 hnw hsz e3 hor hown hp hv =>
      rcases hdX with ⟨e, _⟩ | ⟨ob, e, e', hpu⟩
      · rw [e] at e1; exact (push_ne e1.symm).elim
      · have : ob' = ob := push_inj (e1.symm.trans e)
        subst this
        rw [hn] at e3
        have I' := I.made R ho hD hrdy ha hpu e' (q0 := ⟨w.heap.size, 0, cap, true⟩) rfl hnw hsz (by rw [← e3]; exact hor) hp (by rw [← e3]; exact hv)
        exact hK c _ cv w' I'
  cases hpu : pureA (B k).op with
  | true =>
    obtain ⟨e1, e2⟩ := aop_pure hpu he
    refine main (deadHeap (H k).n) _ (deadHeap_n _) (I.deadCR _) (e2 _) (.inl ⟨rfl, ?_⟩)
    rcases hdich with ⟨_, e⟩ | ⟨ob, e, _⟩
    · exact e
    · rw [e1] at e; exact (push_ne e.symm).elim
  | false =>
    have hw2 : HW hh (H k).weak := ⟨hw.n ▸ rfl, fun b => ((hw.wk b).symm).trans ((H k).hw_weak.wk b)⟩
    obtain ⟨hw', e1, e2⟩ := aop_weak hw2 ha hpu he
    refine main (H k).weak hw' rfl (I.weakCR R hk hD hrdy hpu ha) e1 ?_
    rcases hdich with ⟨d1, d2⟩ | ⟨ob, d1, d2⟩
    · rcases e2 with ⟨e3, e4⟩ | ⟨ob', e3, e4⟩
      · exact .inl ⟨e4, d2⟩
      · rw [d1] at e3; exact (push_ne e3.symm).elim
    · rcases e2 with ⟨e3, e4⟩ | ⟨ob', e3, e4⟩
      · rw [e3] at d1; exact (push_ne d1.symm).elim
      · have : ob' = ob := push_inj (e3.symm.trans d1)
        subst this
        exact .inr ⟨_, e4, d2, hpu⟩

/-- An acting operation is run. -/
theorem Inv.act_wp (R : Reg P call ops vt nt mask B H V VS) (I : Inv P ops vt nt mask B H V VS m0 w0 D c μ a w) (ho : ops[k]? = some o) (hD : ¬ D k) (hrdy : ∀ p, (mask k).testBit p = true → D p)
    (ha : actsA (B k).op = true) (hc : cOp P vt (dsOf ops.toList k) o.op = some (B k).op) (hst : stepBar call (B k) (rsOf V k) (VS k) (H k) = some (V k, H (k + 1)))
    (hK : ∀ c' μ' cv w', Inv P ops vt nt mask B H V VS m0 w0 (fun i => D i ∨ i = k) c' μ' (a.put o.dst cv) w' → K (a.put o.dst cv) w') : o.wp P a w K Q := by
  have hk := size_of ho
  have I' := I.turn R hk ha hD hrdy
  have hops := I'.opsOk R ho hD hrdy
  have hfin : ∀ cv w' m', Acted P (μ.below (H k).n) (H k) w (V k) (H (k + 1)) cv w' m' → K (a.put o.dst cv) w' := fun cv w' m' hA =>
    hK _ _ cv w' (I'.acted R ho hD hrdy hA)
  unfold stepBar at hst
  split at hst
  · exact step_run R.hcall hc hst I'.hr hops hfin
  · split at hst
    · rename_i v h1 h2
      simp only [Option.some.injEq, Prod.mk.injEq] at hst
      obtain ⟨rfl, e⟩ := hst
      refine step_run R.hcall hc h2 (I'.hr.withLim _) hops fun cv w' m' hA => hfin cv w' m' ?_
      rw [← e]; exact hA.withLim
    · cases hst
  · split at hst
    · split at hst
      · rename_i v h1 h2
        simp only [Option.some.injEq, Prod.mk.injEq] at hst
        obtain ⟨rfl, e⟩ := hst
        refine step_run R.hcall hc h2 (I'.hr.withLim _) hops fun cv w' m' hA => hfin cv w' m' ?_
        rw [← e]; exact hA.withLim
      · cases hst
    · cases hst

/-- One operation. -/
theorem Inv.one (R : Reg P call ops vt nt mask B H V VS) (I : Inv P ops vt nt mask B H V VS m0 w0 D c μ a w) (hk : k < ops.size) (hD : ¬ D k) (hrdy : ∀ p, (mask k).testBit p = true → D p)
    (hK : ∀ c' μ' a' w', Inv P ops vt nt mask B H V VS m0 w0 (fun i => D i ∨ i = k) c' μ' a' w' → K a' w') : wpOp P ops Q k K a w := by
  have ho : ops[k]? = some ops[k] := by simp [hk]
  unfold wpOp
  rw [ho]
  simp only
  rcases R.form ho with ⟨op, hc, hop, hg, hw, hst⟩ | ⟨hg, hw, hv, hH⟩
  · rw [I.guard R ho hrdy hg hw, if_pos rfl]
    rw [← hop] at hc
    refine .inl ?_
    cases ha : actsA (B k).op with
    | false => exact I.still_wp R ho hD hrdy ha hc hst (fun c' μ' cv w' I' => hK c' μ' _ w' I')
    | true => exact I.act_wp R ho hD hrdy ha hc hst (fun c' μ' cv w' I' => hK c' μ' _ w' I')
  · rw [I.guard R ho hrdy hg hw]
    simp only [Bool.false_eq_true, if_false]
    have hvr : ∀ m : Mp, VR m (V k) undef := fun m => by rw [hv]; exact undef_VR
    cases ha : actsA (B k).op with
    | false =>
      obtain ⟨c', I'⟩ := I.same R ho hD hrdy hH (hvr _) (.inl ha)
      exact hK c' μ _ w I'
    | true =>
      obtain ⟨c', I'⟩ := (I.turn R hk ha hD hrdy).same R ho hD hrdy hH (hvr _) (.inr rfl)
      exact hK c' μ _ w I'
end
end Go.Av
