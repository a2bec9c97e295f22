/- A region that draws its order: what holds between its operations, whatever the order. -/
import Derived.Test.YtgnpkjfaekimcaaDoorAvReg
set_option linter.unusedVariables false
set_option linter.unusedSimpArgs false
set_option linter.unusedSectionVars false
namespace Go.Av

section
variable {P : Program} {m m' : Mp} {h h' : AHeap} {w w' : World} {v : AV} {cv : Value} {o : AObj} {q : BI} {b : Nat}

theorem HR.new (hh : HR P m h w) (hn : New w w') : HR P m h w' := by
  refine ⟨fun b q hb => ?_, hh.sep, hh.glob, hh.prev⟩
  obtain ⟨h1, h2, o, h3, h4⟩ := hh.cr b q hb
  exact ⟨h1, Nat.lt_of_lt_of_le h2 hn.size, o, h3, h4.same (hn.same _ h2)⟩
theorem HR.push (hh : HR P m h w) (o : AObj) : HR P m (h.push o) w := by
  have hget : ∀ b q, m b = some q → (h.push o).get b = h.get b := fun b q hb => by
    have := (hh.cr b q hb).1
    rw [AHeap.get_push, if_neg (by omega)]
  refine ⟨fun b q hb => ?_, ?_, hh.glob, ?_⟩
  · obtain ⟨h1, h2, o', h3, h4⟩ := hh.cr b q hb
    exact ⟨by simp; omega, h2, o', by rw [hget b q hb]; exact h3, h4⟩
  · intro b c qb qc ob oc hb hc hbc hgb hgc
    rw [hget b qb hb] at hgb; rw [hget c qc hc] at hgc
    exact hh.sep b c qb qc ob oc hb hc hbc hgb hgc
  · intro b q o' hb hg
    rw [hget b q hb] at hg
    exact hh.prev b q o' hb hg
/-- One more block, that lies apart. -/
theorem HR.add (hh : HR P m h w) (hm : m b = none) (hb : b < h.n) (hg : h.get b = some o) (hq : q.blk < w.heap.size) (hd : ∀ c r, m c = some r → r.blk ≠ q.blk)
    (ho : OR (m.upd b q) q w o) (hp : o.prevs = []) : HR P (m.upd b q) h w := by
  refine ⟨fun c r hc => ?_, ?_, ?_, ?_⟩
  · by_cases e : c = b
    · subst e; rw [Mp.upd_same] at hc; injection hc with hc; subst hc
      exact ⟨hb, hq, o, hg, ho⟩
    · rw [Mp.upd_ne _ _ e] at hc
      obtain ⟨h1, h2, o', h3, h4⟩ := hh.cr c r hc
      exact ⟨h1, h2, o', h3, h4.mono (Mp.le_upd hm)⟩
  · intro x y qx qy ox oy hx hy hxy hgx hgy hown hlive hblk
    by_cases e : x = b
    · subst e; rw [Mp.upd_same] at hx; injection hx with hx; subst hx
      rw [Mp.upd_ne _ _ (Ne.symm hxy)] at hy
      exact absurd hblk.symm (hd y qy hy)
    · rw [Mp.upd_ne _ _ e] at hx
      by_cases e' : y = b
      · subst e'; rw [Mp.upd_same] at hy; injection hy with hy; subst hy
        exact absurd hblk (hd x qx hx)
      · rw [Mp.upd_ne _ _ e'] at hy
        exact hh.sep x y qx qy ox oy hx hy hxy hgx hgy hown hlive hblk
  · intro g hg'
    have h1 := hh.glob g hg'
    have : g ≠ b := by rintro rfl; rw [hm] at h1; cases h1
    rw [Mp.upd_ne _ _ this]; exact h1
  · intro x r o' hx hgx p hp'
    by_cases e : x = b
    · subst e; rw [hg] at hgx; injection hgx with hgx; subst hgx; rw [hp] at hp'; simp at hp'
    · rw [Mp.upd_ne _ _ e] at hx
      have := hh.prev x r o' hx hgx p hp'
      cases hmp : m p with
      | none => rw [hmp] at this; cases this
      | some qp => rw [Mp.le_upd hm _ _ hmp]; rfl
theorem HR.withLim (hh : HR P m h w) (l : Nat) : HR P m (h.withLim l) w := ⟨hh.cr, hh.sep, hh.glob, hh.prev⟩
theorem Acted.withLim {l : Nat} (k : Acted P m (h.withLim l) w v h' cv w' m') : Acted P m h w v (h'.withLim h.lim) cv w' m' :=
  ⟨k.vr, k.hr.withLim _, k.grow, k.chg, k.n, rfl, k.out⟩
end

section
variable {P : Program} {call : Nat → List AV → AHeap → Option (AV × AHeap)} {ops : Array Oper} {vt : List Nat} {nt : Nat} {mask : Nat → Nat} {B : Nat → ARO}
    {H : Nat → AHeap} {V : Nat → AV} {VS : Nat → List AV} {k : Nat} {o : Oper}

structure Inv (P : Program) (ops : Array Oper) (vt : List Nat) (nt : Nat) (mask : Nat → Nat) (B : Nat → ARO) (H : Nat → AHeap) (V : Nat → AV) (VS : Nat → List AV)
    (m0 : Mp) (w0 : World) (D : Nat → Prop) (c : Nat) (μ : Mp) (a : Act) (w : World) : Prop where
  c_le : c ≤ ops.size
  act : ∀ p, p < ops.size → actsA (B p).op = true → (D p ↔ p < c)
  closed : ∀ k, k < ops.size → D k → ∀ p, (mask k).testBit p = true → D p
  hr : HR P (μ.below (H c).n) (H c) w
  ext : ∀ b q, μ b = some q → (H c).n ≤ b → ∃ i o, D i ∧ c ≤ i ∧ i < ops.size ∧ b = (H i).n ∧ H (i + 1) = (H i).push o ∧ OR (μ.below (H (i + 1)).n) q w o ∧ o.prevs = [] ∧
    q.blk < w.heap.size ∧ (∀ b' q', μ b' = some q' → b' ≠ b → q'.blk ≠ q.blk)
  gap : ∀ i, i < ops.size → ¬ D i → ∀ b, (H i).n ≤ b → b < (H (i + 1)).n → μ b = none
  all : ∀ i, i < ops.size → D i → ∀ b, (H i).n ≤ b → b < (H (i + 1)).n → (μ b).isSome = true
  vals : ∀ i o t, D i → ops[i]? = some o → o.dst = some t → VR (μ.below (H (i + 1)).n) (V i) (a.tmps.getD t undef)
  vars : ∀ j t, vt[j]? = some t → (∀ i o, D i → ops[i]? = some o → o.dst ≠ some t) → VR m0 (nth (VS 0) j) (a.tmps.getD t undef)
  le0 : m0.Le μ
  dom0 : ∀ b q, m0 b = some q → b < (H 0).n
  glob0 : Glob P m0
  vlen : (VS 0).length = vt.length
  size : nt ≤ a.tmps.size
  defers : a.defers = []
  late : ∀ i, i < c → ¬ D i → ∀ b, (H i).n ≤ b → b < (H (i + 1)).n → (H c).get b = (H (i + 1)).get b
  wf : ∀ i, i < c → ¬ D i → ∀ b, b < (H i).n → (μ b).isSome = true → ∃ o, (H i).get b = some o ∧ WFo (H i).n o
  chg : Chg m0 w0 w
  new : ∀ b q, μ b = some q → m0 b = none → (H 0).n ≤ b ∧ (w0.heap.size ≤ q.blk ∨ ∃ c r, m0 c = some r ∧ r.blk = q.blk ∧ r.own = true)
  out : ∀ b, b < (H 0).n → m0 b = none → (H c).get b = (H 0).get b

variable {m0 : Mp} {w0 : World} {D : Nat → Prop} {c : Nat} {μ : Mp} {a : Act} {w : World}

theorem Inv.blk_lt (I : Inv P ops vt nt mask B H V VS m0 w0 D c μ a w) {b : Nat} {q : BI} (h : μ b = some q) : q.blk < w.heap.size := by
  by_cases e : b < (H c).n
  · exact (I.hr.cr b q (Mp.below_some.2 ⟨e, h⟩)).2.1
  · obtain ⟨i, o, _, _, _, _, _, _, _, h1, _⟩ := I.ext b q h (by omega)
    exact h1
theorem Inv.le_below (R : Reg P call ops vt nt mask B H V VS) (I : Inv P ops vt nt mask B H V VS m0 w0 D c μ a w) (hk : k ≤ ops.size) : m0.Le (μ.below (H k).n) := fun b q hb =>
  Mp.below_some.2 ⟨by have := I.dom0 b q hb; have := (R.n_mono (i := 0) (j := k) (by omega) hk).1; omega, I.le0 _ _ hb⟩
theorem idxSome_none {t : Nat} : ∀ {ds : List (Option Nat)}, idxSome t ds = none → ∀ d : Nat, ds[d]? ≠ some (some t)
  | [], _, d => by simp
  | none :: l, h, d => by
    simp only [idxSome] at h
    split at h
    · cases h
    · rename_i hn
      cases d with
      | zero => simp
      | succ d => simpa using idxSome_none hn d
  | some y :: l, h, d => by
    simp only [idxSome] at h
    split at h
    · cases h
    · rename_i hy
      split at h
      · cases h
      · rename_i hn
        cases d with
        | zero =>
          intro e; simp at e; subst e
          have : Nat.beq y y = true := beq_iff.2 rfl
          simp [this] at hy
        | succ d => simpa using idxSome_none hn d

theorem Inv.opsOk (R : Reg P call ops vt nt mask B H V VS) (I : Inv P ops vt nt mask B H V VS m0 w0 D c μ a w) (ho : ops[k]? = some o) (hD : ¬ D k) (hrdy : ∀ p, (mask k).testBit p = true → D p) :
    Ops P (μ.below (H k).n) vt (dsOf ops.toList k) (rsOf V k) (VS k) a.eval o.op.operands.toList := by
  have hk := size_of ho
  intro x hx ao hc
  cases x with
  | tmp t =>
    simp only [cOperand] at hc
    split at hc
    · rename_i d hd; injection hc with hc; subst hc
      obtain ⟨hdk, h1⟩ := dsOf_get (by simp; omega) (idxSome_get hd)
      rw [Array.getElem?_toList] at h1
      cases e : ops[k - 1 - d]? with
      | none => rw [e] at h1; cases h1
      | some o' =>
        rw [e] at h1; simp at h1
        have hDp : D (k - 1 - d) := by
          rcases R.looks k o ho t hx _ o' e h1 with h2 | h2 | h2
          · omega
          · exact hrdy _ h2.2
          · have := h2.1; omega
        simp only [AO.ev]
        rw [rsOf_nth V k d hdk]
        exact (I.vals _ o' t hDp e h1).mono (Mp.below_mono (Mp.Le.refl _) (R.n_mono (by omega) (by omega)).1)
    · rename_i hd
      split at hc
      · rename_i j hj; injection hc with hc; subst hc
        have hvt := idxOf_get hj
        have hno : ∀ p, p < k → (ops[p]?).bind (·.dst) ≠ some t := by
          intro p hp e
          cases e2 : ops[p]? with
          | none => rw [e2] at e; cases e
          | some o' =>
            rw [e2] at e; simp at e
            refine idxSome_none hd (k - 1 - p) ?_
            unfold dsOf
            have hlen : (ops.toList.take k).length = k := by simp; omega
            rw [List.getElem?_map, List.getElem?_reverse (by rw [hlen]; omega), hlen]
            have : k - 1 - (k - 1 - p) = p := by omega
            rw [this, List.getElem?_take_of_lt hp, Array.getElem?_toList, e2]
            simp [e]
        have hj2 : j < (VS k).length := by rw [R.vs_length (by omega), I.vlen]; exact (List.getElem?_eq_some_iff.1 hvt).1
        simp only [AO.ev]
        rw [R.vars hvt (by omega) (.inl hj2) hno]
        refine (I.vars j t hvt fun i o' hDi hoi e => ?_).mono (I.le_below R (by omega))
        rcases R.looks k o ho t hx i o' hoi e with h2 | h2 | h2
        · subst h2; exact hD hDi
        · exact hno i h2.1 (by rw [hoi]; exact e)
        · exact hD (I.closed i (size_of hoi) hDi k h2.2)
      · cases hc
  | const y =>
    simp only [cOperand] at hc
    split at hc
    · rename_i z hz; injection hc with hc; subst hc
      exact ofValue_VR hz
    · cases hc
  | func f =>
    simp only [cOperand, Option.some.injEq] at hc; subst hc
    exact .f f [] [] #[] #[] .nil .nil
  | global g =>
    simp only [cOperand] at hc
    split at hc
    · rename_i hb; injection hc with hc; subst hc
      exact .p g 0 _ (I.le_below R (by omega) _ _ (I.glob0 g (blt_iff.1 hb)))
    · cases hc

theorem Inv.guard (R : Reg P call ops vt nt mask B H V VS) (I : Inv P ops vt nt mask B H V VS m0 w0 D c μ a w) (ho : ops[k]? = some o) (hrdy : ∀ p, (mask k).testBit p = true → D p)
    (hf : GuardForm ops k o (B k)) {b : Bool} (hw : wanted (rsOf V k) (B k).guard = some b) : Region.wanted o (yielded ops a.tmps) = b := by
  rcases hf with ⟨h1, h2⟩ | ⟨j, wt, t, h1, h2, hj, ht⟩
  · rw [h2] at hw; simp only [wanted, Option.some.injEq] at hw; subst hw
    simp [Region.wanted, h1]
  · rw [h2] at hw
    have hDj := hrdy j (R.gd k o j wt ho h1).2
    cases e : ops[j]? with
    | none => rw [e] at ht; cases ht
    | some o' =>
      rw [e] at ht; simp at ht
      have hv := I.vals j o' t hDj e ht
      have hnth : nth (rsOf V k) (k - 1 - j) = V j := by rw [rsOf_nth V k _ (by omega)]; congr 1; omega
      have htn : t < a.tmps.size := Nat.lt_of_lt_of_le (dstsBelow_get R.db j t (by rw [List.getElem?_map, Array.getElem?_toList, e]; simp [ht])) I.size
      exact guard_run (ops := ops) (m := μ.below (H (j + 1)).n) (rs := rsOf V k) h1 (by rw [e]; exact ht) htn (by rw [hnth]; exact hv) hw

theorem Inv.dst_ne (R : Reg P call ops vt nt mask B H V VS) {i j : Nat} {oi oj : Oper} {t : Nat} (hi : ops[i]? = some oi) (hj : ops[j]? = some oj) (h1 : oi.dst = some t) (h2 : oj.dst = some t) : i = j :=
  nodupDst_inj R.dd i j t (by rw [List.getElem?_map, Array.getElem?_toList, hi]; simp [h1]) (by rw [List.getElem?_map, Array.getElem?_toList, hj]; simp [h2])
/-- What the k-th operation sets. -/
theorem Inv.put (R : Reg P call ops vt nt mask B H V VS) (I : Inv P ops vt nt mask B H V VS m0 w0 D c μ a w) (ho : ops[k]? = some o) {μ' : Mp} {cv : Value} (hle : μ.Le μ')
    (hv : VR (μ'.below (H (k + 1)).n) (V k) cv) :
    (∀ i oi t, (D i ∨ i = k) → ops[i]? = some oi → oi.dst = some t → VR (μ'.below (H (i + 1)).n) (V i) ((a.put o.dst cv).tmps.getD t undef)) ∧
    (∀ j t, vt[j]? = some t → (∀ i oi, (D i ∨ i = k) → ops[i]? = some oi → oi.dst ≠ some t) → VR m0 (nth (VS 0) j) ((a.put o.dst cv).tmps.getD t undef)) ∧
    nt ≤ (a.put o.dst cv).tmps.size ∧ (a.put o.dst cv).defers = [] := by
  have hlt : ∀ t, o.dst = some t → t < a.tmps.size := fun t ht =>
    Nat.lt_of_lt_of_le (dstsBelow_get R.db k t (by rw [List.getElem?_map, Array.getElem?_toList, ho]; simp [ht])) I.size
  refine ⟨fun i oi t hi hoi ht => ?_, fun j t hj hno => ?_, by rw [size_put]; exact I.size, by rw [defers_put]; exact I.defers⟩
  · by_cases e : i = k
    · subst e
      rw [ho] at hoi; injection hoi with hoi; subst hoi
      rw [ht, getD_put (hlt t ht), if_pos rfl]; exact hv
    · have hDi := hi.resolve_right e
      have hold := (I.vals i oi t hDi hoi ht).mono (Mp.below_mono hle (Nat.le_refl _))
      cases hd : o.dst with
      | none => exact hold
      | some y =>
        rw [getD_put (hlt y hd)]
        have : t ≠ y := by rintro rfl; exact e (Inv.dst_ne R hoi ho ht hd)
        rw [if_neg this]; exact hold
  · have hold := I.vars j t hj fun i oi hi hoi => hno i oi (.inl hi) hoi
    cases hd : o.dst with
    | none => exact hold
    | some y =>
      rw [getD_put (hlt y hd)]
      have : t ≠ y := by rintro rfl; exact hno k o (.inr rfl) ho hd
      rw [if_neg this]; exact hold
end
end Go.Av
