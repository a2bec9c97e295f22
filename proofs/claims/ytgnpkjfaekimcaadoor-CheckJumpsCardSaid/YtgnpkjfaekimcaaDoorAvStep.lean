/- A region that draws its order: each operation keeps what holds. -/
import Derived.Test.YtgnpkjfaekimcaaDoorAvInv
set_option linter.unusedVariables false
set_option linter.unusedSimpArgs false
set_option linter.unusedSectionVars false
namespace Go.Av
section
variable {P : Program} {call : Nat → List AV → AHeap → Option (AV × AHeap)} {ops : Array Oper} {vt : List Nat} {nt : Nat} {mask : Nat → Nat} {B : Nat → ARO}
    {H : Nat → AHeap} {V : Nat → AV} {VS : Nat → List AV} {k : Nat} {o : Oper}
variable {m0 : Mp} {w0 : World} {D : Nat → Prop} {c : Nat} {μ : Mp} {a : Act} {w : World}

theorem Mp.below_upd {μ : Mp} {n b : Nat} {q : BI} (h : b < n) : (μ.upd b q).below n = (μ.below n).upd b q := by
  funext x
  unfold Mp.below Mp.upd
  by_cases e : x = b
  · subst e; simp [h]
  · simp [e]
theorem Mp.below_upd_ge {μ : Mp} {n b : Nat} {q : BI} (h : n ≤ b) : (μ.upd b q).below n = μ.below n := by
  funext x
  unfold Mp.below Mp.upd
  by_cases e : x < n
  · have : x ≠ b := by omega
    simp [e, this]
  · simp [e]
theorem Mp.below_succ_none {μ : Mp} {n : Nat} (h : μ n = none) : μ.below (n + 1) = μ.below n := by
  funext x
  unfold Mp.below
  by_cases e : x < n
  · rw [if_pos e, if_pos (by omega)]
  · rw [if_neg e]
    by_cases e2 : x < n + 1
    · have : x = n := by omega
      subst this; rw [if_pos e2, h]
    · rw [if_neg e2]
theorem Mp.below_succ_some {μ : Mp} {n : Nat} {q : BI} (h : μ n = some q) : μ.below (n + 1) = (μ.below n).upd n q := by
  funext x
  unfold Mp.below Mp.upd
  by_cases e : x = n
  · subst e; simp [h]
  · rw [if_neg e]
    by_cases e2 : x < n
    · rw [if_pos (by omega)]; simp [e2]
    · rw [if_neg (by omega)]; simp [e2]

/-- Past an operation that acts on nothing. -/
theorem Inv.bump1 (R : Reg P call ops vt nt mask B H V VS) (I : Inv P ops vt nt mask B H V VS m0 w0 D c μ a w) (hc : c < ops.size) (ha : actsA (B c).op = false) :
    Inv P ops vt nt mask B H V VS m0 w0 D (c + 1) μ a w := by
  have hdom : ∀ b q, (μ.below (H c).n) b = some q → b < (H c).n := fun b q hb => (Mp.below_some.1 hb).1
  have hact : ∀ p, p < ops.size → actsA (B p).op = true → (D p ↔ p < c + 1) := fun p hp hpa => by
    rw [I.act p hp hpa]
    have : p ≠ c := by rintro rfl; rw [ha] at hpa; cases hpa
    omega
  have hwf : ∀ i, i < c + 1 → ¬ D i → ∀ b, b < (H i).n → (μ b).isSome = true → ∃ o, (H i).get b = some o ∧ WFo (H i).n o := by
    intro i hi hD b hb hs
    by_cases e : i = c
    · subst e
      cases hm : μ b with
      | none => rw [hm] at hs; cases hs
      | some q =>
        obtain ⟨_, _, o, h1, h2⟩ := I.hr.cr b q (Mp.below_some.2 ⟨hb, hm⟩)
        exact ⟨o, h1, h2.wf hdom⟩
    · exact I.wf i (by omega) hD b hb hs
  rcases R.still_heap hc ha with e | ⟨o, e⟩
  · refine ⟨hc, hact, I.closed, by rw [e]; exact I.hr, ?_, I.gap, I.all, I.vals, I.vars, I.le0, I.dom0, I.glob0, I.vlen, I.size, I.defers, ?_, hwf, I.chg, I.new, by rw [e]; exact I.out⟩
    · intro b q hb hge
      rw [e] at hge
      obtain ⟨i, o, h1, h2, h3, h4, h5, h6⟩ := I.ext b q hb hge
      refine ⟨i, o, h1, ?_, h3, h4, h5, h6⟩
      have : i ≠ c := by
        rintro rfl
        have := congrArg AHeap.n (h5.symm.trans e)
        simp at this
      omega
    · intro i hi hD b h1 h2
      by_cases e2 : i = c
      · subst e2; rfl
      · rw [e]; exact I.late i (by omega) hD b h1 h2
  · have hn : (H (c + 1)).n = (H c).n + 1 := by rw [e]; rfl
    have hget : ∀ b, b < (H c).n → (H (c + 1)).get b = (H c).get b := fun b hb => by rw [e, AHeap.get_push, if_neg (by omega)]
    refine ⟨hc, hact, I.closed, ?_, ?_, I.gap, I.all, I.vals, I.vars, I.le0, I.dom0, I.glob0, I.vlen, I.size, I.defers, ?_, hwf, I.chg, I.new, ?_⟩
    · rw [hn]
      cases hm : μ (H c).n with
      | none =>
        rw [Mp.below_succ_none hm, e]
        exact I.hr.push o
      | some q =>
        obtain ⟨i, o', h1, h2, h3, h4, h5, h6, h7, h8, h9⟩ := I.ext _ q hm (Nat.le_refl _)
        have hic : i = c := by
          apply Classical.byContradiction
          intro hne
          have := (R.n_mono (i := c + 1) (j := i) (by omega) (by omega)).1
          omega
        subst hic
        have hoo : o' = o := by
          have h10 := h5.symm.trans e
          have h11 := congrArg (fun h => h.get (H i).n) h10
          simp only [AHeap.get_push, if_true] at h11
          exact Option.some.inj h11
        subst hoo
        rw [Mp.below_succ_some hm, e]
        refine (I.hr.push o').add (o := o') (by unfold Mp.below; simp) (by simp) (by rw [AHeap.get_push, if_pos rfl]) h8 ?_ ?_ h7
        · intro x r hx
          have := Mp.below_some.1 hx
          exact h9 x r this.2 (by omega)
        · rw [hn, Mp.below_succ_some hm] at h6; exact h6
    · intro b q hb hge
      obtain ⟨i, o', h1, h2, h3, h4, h5, h6⟩ := I.ext b q hb (by omega)
      refine ⟨i, o', h1, ?_, h3, h4, h5, h6⟩
      have : i ≠ c := by rintro rfl; omega
      omega
    · intro i hi hD b h1 h2
      by_cases e2 : i = c
      · subst e2; rfl
      · have := (R.n_mono (i := i + 1) (j := c) (by omega) (by omega)).1
        rw [hget b (by omega)]; exact I.late i (by omega) hD b h1 h2
    · intro b hb hm
      have := (R.n_mono (i := 0) (j := c) (by omega) (by omega)).1
      rw [hget b (by omega)]; exact I.out b hb hm
theorem Inv.bump (R : Reg P call ops vt nt mask B H V VS) {j : Nat} (hcj : c ≤ j) (hj : j ≤ ops.size) (ha : ∀ p, c ≤ p → p < j → actsA (B p).op = false)
    (I : Inv P ops vt nt mask B H V VS m0 w0 D c μ a w) : Inv P ops vt nt mask B H V VS m0 w0 D j μ a w := by
  induction j with
  | zero => have : c = 0 := by omega
            subst this; exact I
  | succ j ih =>
    by_cases e : c = j + 1
    · subst e; exact I
    · exact (ih (by omega) (by omega) (fun p h1 h2 => ha p h1 (by omega))).bump1 R (by omega) (ha j (by omega) (by omega))

/-- Where an acting operation's turn has come. -/
theorem Inv.turn (R : Reg P call ops vt nt mask B H V VS) (I : Inv P ops vt nt mask B H V VS m0 w0 D c μ a w) (hk : k < ops.size) (ha : actsA (B k).op = true) (hD : ¬ D k)
    (hrdy : ∀ p, (mask k).testBit p = true → D p) : Inv P ops vt nt mask B H V VS m0 w0 D k μ a w := by
  have h1 : c ≤ k := by
    apply Classical.byContradiction
    intro h; exact hD ((I.act k hk ha).2 (by omega))
  refine I.bump R h1 (by omega) fun p hp1 hp2 => ?_
  cases hpa : actsA (B p).op with
  | false => rfl
  | true =>
    have := (I.act p (by omega) hpa).1 (hrdy p (R.acts k p hk hp2 hpa ha))
    omega

theorem Inv.closed' (I : Inv P ops vt nt mask B H V VS m0 w0 D c μ a w) (hrdy : ∀ p, (mask k).testBit p = true → D p) :
    ∀ i, i < ops.size → (D i ∨ i = k) → ∀ p, (mask i).testBit p = true → (D p ∨ p = k) := by
  intro i hi hD p hp
  rcases hD with h | rfl
  · exact .inl (I.closed i hi h p hp)
  · exact .inl (hrdy p hp)

/-- An operation that is not to be run, or that is run and changes nothing. -/
theorem Inv.same (R : Reg P call ops vt nt mask B H V VS) (I : Inv P ops vt nt mask B H V VS m0 w0 D c μ a w) (ho : ops[k]? = some o) (hD : ¬ D k) (hrdy : ∀ p, (mask k).testBit p = true → D p)
    (hH : H (k + 1) = H k) {cv : Value} (hv : VR (μ.below (H k).n) (V k) cv) (hc : actsA (B k).op = false ∨ c = k) :
    ∃ c', Inv P ops vt nt mask B H V VS m0 w0 (fun i => D i ∨ i = k) c' μ (a.put o.dst cv) w := by
  have hk := size_of ho
  obtain ⟨p1, p2, p3, p4⟩ := I.put R ho (Mp.Le.refl _) (by rw [hH]; exact hv)
  have hall : ∀ i, i < ops.size → (D i ∨ i = k) → ∀ b, (H i).n ≤ b → b < (H (i + 1)).n → (μ b).isSome = true := by
    intro i hi hDi b h1 h2
    rcases hDi with h | rfl
    · exact I.all i hi h b h1 h2
    · rw [hH] at h2; omega
  cases ha : actsA (B k).op with
  | false =>
    refine ⟨c, I.c_le, ?_, I.closed' hrdy, I.hr, ?_, fun i hi hDi => I.gap i hi (fun h => hDi (.inl h)), hall, p1, p2, I.le0, I.dom0, I.glob0, I.vlen, p3, p4,
      fun i hi hDi => I.late i hi (fun h => hDi (.inl h)), fun i hi hDi => I.wf i hi (fun h => hDi (.inl h)), I.chg, I.new, I.out⟩
    · intro p hp hpa
      have : p ≠ k := by rintro rfl; rw [ha] at hpa; cases hpa
      rw [← I.act p hp hpa]; simp [this]
    · intro b q hb hge
      obtain ⟨i, o', h1, h2⟩ := I.ext b q hb hge
      exact ⟨i, o', .inl h1, h2⟩
  | true =>
    have hck : c = k := by rcases hc with h | h; (rw [h] at ha; cases ha); exact h
    subst hck
    refine ⟨c + 1, hk, ?_, I.closed' hrdy, by rw [hH]; exact I.hr, ?_, fun i hi hDi => I.gap i hi (fun h => hDi (.inl h)), hall, p1, p2, I.le0, I.dom0, I.glob0, I.vlen, p3, p4, ?_, ?_, I.chg, I.new, by rw [hH]; exact I.out⟩
    · intro p hp hpa
      rw [I.act p hp hpa]; omega
    · intro b q hb hge
      rw [hH] at hge
      obtain ⟨i, o', h1, h2, h3⟩ := I.ext b q hb hge
      have : i ≠ c := by rintro rfl; exact hD h1
      exact ⟨i, o', .inl h1, by omega, h3⟩
    · intro i hi hDi b h1 h2
      rw [hH]
      have : i ≠ c := fun e => hDi (.inr e)
      exact I.late i (by omega) (fun h => hDi (.inl h)) b h1 h2
    · intro i hi hDi b h1 h2
      have : i ≠ c := fun e => hDi (.inr e)
      exact I.wf i (by omega) (fun h => hDi (.inl h)) b h1 h2
/-- It makes a block. -/
theorem Inv.made (R : Reg P call ops vt nt mask B H V VS) (I : Inv P ops vt nt mask B H V VS m0 w0 D c μ a w) (ho : ops[k]? = some o) (hD : ¬ D k) (hrdy : ∀ p, (mask k).testBit p = true → D p)
    (ha : actsA (B k).op = false) (hpu : pureA (B k).op = false) {ob : AObj} (hH : H (k + 1) = (H k).push ob) {cv : Value} {w' : World} {q0 : BI} (hq0 : q0.blk = w.heap.size) (hn : New w w') (hs : w'.heap.size = w.heap.size + 1)
    (hor : OR ((μ.below (H k).n).upd (H k).n q0) q0 w' ob) (hp : ob.prevs = []) (hv : VR ((μ.below (H k).n).upd (H k).n q0) (V k) cv) :
    Inv P ops vt nt mask B H V VS m0 w0 (fun i => D i ∨ i = k) c (μ.upd (H k).n q0) (a.put o.dst cv) w' := by
  have hk := size_of ho
  have hn1 : (H (k + 1)).n = (H k).n + 1 := by rw [hH]; rfl
  have hnone : μ (H k).n = none := I.gap k hk hD _ (Nat.le_refl _) (by omega)
  have hbel : (μ.upd (H k).n q0).below (H (k + 1)).n = (μ.below (H k).n).upd (H k).n q0 := by
    rw [Mp.below_upd (by omega), hn1, Mp.below_succ_none hnone]
  have hle := Mp.le_upd (q := q0) hnone
  obtain ⟨p1, p2, p3, p4⟩ := I.put R ho hle (by rw [hbel]; exact hv)
  have hkc : k < c → (H k).n < (H c).n := fun h => by have := (R.n_mono (i := k + 1) (j := c) (by omega) I.c_le).1; omega
  have hck : c ≤ k → (H c).n ≤ (H k).n := fun h => (R.n_mono h (by omega)).1
  refine ⟨I.c_le, ?_, I.closed' hrdy, ?_, ?_, ?_, ?_, p1, p2, I.le0.trans hle, I.dom0, I.glob0, I.vlen, p3, p4, fun i hi hDi => I.late i hi (fun h => hDi (.inl h)), ?_, ?_, ?_, I.out⟩
  · intro p hp hpa
    have : p ≠ k := by rintro rfl; rw [ha] at hpa; cases hpa
    rw [← I.act p hp hpa]; simp [this]
  · by_cases e : k < c
    · rw [Mp.below_upd (hkc e)]
      refine (I.hr.new hn).add (o := ob) (by unfold Mp.below; rw [hnone]; simp) (hkc e) ?_ (by omega) ?_ ?_ hp
      · rw [I.late k e hD _ (Nat.le_refl _) (by omega), hH, AHeap.get_push, if_pos rfl]
      · intro x r hx
        have := I.blk_lt (Mp.below_some.1 hx).2
        omega
      · refine hor.mono ?_
        intro x r hx
        by_cases ex : x = (H k).n
        · subst ex; rw [Mp.upd_same] at hx ⊢; exact hx
        · rw [Mp.upd_ne _ _ ex] at hx ⊢
          have := Mp.below_some.1 hx
          exact Mp.below_some.2 ⟨by have := hkc e; omega, this.2⟩
    · rw [Mp.below_upd_ge (hck (by omega))]
      exact I.hr.new hn
  · intro b q hb hge
    by_cases e : b = (H k).n
    · subst e
      rw [Mp.upd_same] at hb; injection hb with hb; subst hb
      have : c ≤ k := by
        apply Classical.byContradiction
        intro h; have := hkc (by omega); omega
      refine ⟨k, ob, .inr rfl, this, hk, rfl, hH, by rw [hbel]; exact hor, hp, by omega, ?_⟩
      intro x r hx hne
      rw [Mp.upd_ne _ _ hne] at hx
      have := I.blk_lt hx
      omega
    · rw [Mp.upd_ne _ _ e] at hb
      obtain ⟨i, o', h1, h2, h3, h4, h5, h6, h7, h8, h9⟩ := I.ext b q hb hge
      refine ⟨i, o', .inl h1, h2, h3, h4, h5, (h6.same (hn.same _ h8)).mono (Mp.below_mono hle (Nat.le_refl _)), h7, by omega, ?_⟩
      intro x r hx hne
      by_cases ex : x = (H k).n
      · subst ex; rw [Mp.upd_same] at hx; injection hx with hx; subst hx
        omega
      · rw [Mp.upd_ne _ _ ex] at hx; exact h9 x r hx hne
  · intro i hi hDi b h1 h2
    have hik : i ≠ k := fun e => hDi (.inr e)
    have hb : b ≠ (H k).n := by
      rcases Nat.lt_or_gt_of_ne hik with h | h
      · have := (R.n_mono (i := i + 1) (j := k) (by omega) (by omega)).1; omega
      · have := (R.n_mono (i := k + 1) (j := i) (by omega) (by omega)).1; omega
    rw [Mp.upd_ne _ _ hb]
    exact I.gap i hi (fun h => hDi (.inl h)) b h1 h2
  · intro i hi hDi b h1 h2
    rcases hDi with h | rfl
    · cases hm : μ b with
      | none => have := I.all i hi h b h1 h2; rw [hm] at this; cases this
      | some q => rw [hle _ _ hm]; rfl
    · have : b = (H i).n := by omega
      subst this; rw [Mp.upd_same]; rfl
  · intro i hi hDi b hb hs'
    have hDi' : ¬ D i := fun h => hDi (.inl h)
    by_cases e : b = (H k).n
    · subst e
      have hki : k < i := by
        apply Classical.byContradiction
        intro h; have := (R.n_mono (i := i) (j := k) (by omega) (by omega)).1; omega
      have hwk := R.weak_range (i := k + 1) (j := i) (by omega) (by have := I.c_le; omega) (b := (H k).n) (fun p h1 h2 => by
        cases hpa : actsA (B p).op with
        | false => exact .inl hpa
        | true =>
          have hps : p < ops.size := by have := I.c_le; omega
          have hDp := (I.act p hps hpa).2 (by omega)
          cases hpb : (B p).bar with
          | new => exact .inr (.inl hpb)
          | full =>
            exfalso
            rcases R.bars p k hps hk hpb (by omega) hpu with h | h
            · exact hD (I.closed p hps hDp k h.2)
            · have := h.1; omega
          | last =>
            obtain ⟨⟨j, rfl, hm, hj⟩, _⟩ := R.lasts p hps hpb
            have hne : j ≠ k := by rintro rfl; exact hD (I.closed _ hps hDp _ hm)
            refine .inr (.inr ⟨hpb, ?_⟩)
            have h3 := (R.n_mono (i := k + 1) (j := j) (by omega) (by omega)).1
            rw [hj]; simp; omega) (by omega)
      rw [hH, AHeap.get_push, if_pos rfl] at hwk
      generalize hx : (H i).get (H k).n = x at hwk
      cases hwk with
      | some hwk =>
        refine ⟨_, rfl, WFo.wk hwk (hor.wf ?_)⟩
        intro y r hy
        by_cases ey : y = (H k).n
        · subst ey; exact hb
        · rw [Mp.upd_ne _ _ ey] at hy
          have := (Mp.below_some.1 hy).1
          omega
    · rw [Mp.upd_ne _ _ e] at hs'
      exact I.wf i hi hDi' b hb hs'
  · refine ⟨hn.os.trans I.chg.os, hn.tape.trans I.chg.tape, hn.output.trans I.chg.output, Nat.le_trans I.chg.size hn.size, fun r hr hm => ?_⟩
    rw [← I.chg.same r hr hm]
    exact hn.same r (Nat.lt_of_lt_of_le hr I.chg.size)
  · intro b q hb hm
    by_cases e : b = (H k).n
    · subst e
      rw [Mp.upd_same] at hb; injection hb with hb; subst hb
      exact ⟨(R.n_mono (i := 0) (j := k) (by omega) (by omega)).1, .inl (by have := I.chg.size; omega)⟩
    · rw [Mp.upd_ne _ _ e] at hb
      exact I.new b q hb hm
end
end Go.Av
