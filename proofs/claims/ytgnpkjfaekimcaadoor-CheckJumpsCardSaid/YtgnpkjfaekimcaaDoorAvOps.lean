/- Operations that act on nothing that is there. -/
import Derived.Test.YtgnpkjfaekimcaaDoorAvMap
set_option linter.unusedVariables false
set_option linter.unusedSimpArgs false
set_option linter.unusedSectionVars false
namespace Go.Av

/-- What such an operation leaves: nothing; or one new block. -/
inductive Still (m : Mp) (h : AHeap) (w : World) (v : AV) (h' : AHeap) (cv : Value) (w' : World) (m' : Mp) : Prop
  | same (e1 : h' = h) (e2 : w' = w) (e3 : m' = m) (hv : VR m v cv) : Still m h w v h' cv w' m'
  | made (o : AObj) (cap : Nat) (e1 : h' = h.push o) (hn : New w w') (hs : w'.heap.size = w.heap.size + 1) (e3 : m' = m.upd h.n ⟨w.heap.size, 0, cap, true⟩)
      (ho : OR m' ⟨w.heap.size, 0, cap, true⟩ w' o) (hown : o.own) (hp : o.prevs = []) (hv : VR m' v cv) : Still m h w v h' cv w' m'

theorem CR.fresh {m : Mp} {h : AHeap} {w : World} (hcr : CR m h w) : m h.n = none := by
  cases e : m h.n with
  | none => rfl
  | some q => have := (hcr _ _ e).1; omega
theorem AObj.own_live {o : AObj} (h : o.own) : o ≠ .dead := by rintro rfl; exact h
theorem AObj.own_notSh {o : AObj} (h : o.own) : ¬ o.isSh := by
  intro h2; cases o with
  | cells c st prev ez => cases st <;> simp_all [AObj.own, AObj.isSh]
  | map => exact h2
  | dead => exact h2

section
variable {P : Program} {m m' : Mp} {h h' : AHeap} {w w' : World} {v : AV} {cv : Value}

theorem Still.vr (k : Still m h w v h' cv w' m') : VR m' v cv := by
  cases k with
  | same e1 e2 e3 hv => subst e3; exact hv
  | made o cap e1 hn hs e3 ho hown hp hv => exact hv
theorem Still.new (k : Still m h w v h' cv w' m') : New w w' := by
  cases k with
  | same e1 e2 e3 hv => subst e2; exact New.refl _
  | made o cap e1 hn hs e3 ho hown hp hv => exact hn
theorem Still.lim (k : Still m h w v h' cv w' m') : h'.lim = h.lim ∧ h.n ≤ h'.n ∧ ∀ b, b < h.n → h'.get b = h.get b := by
  cases k with
  | same e1 e2 e3 hv => subst e1; exact ⟨rfl, Nat.le_refl _, fun _ _ => rfl⟩
  | made o cap e1 hn hs e3 ho hown hp hv =>
    subst e1
    exact ⟨rfl, by simp, fun b hb => by rw [AHeap.get_push, if_neg (by omega)]⟩
theorem Still.grow (k : Still m h w v h' cv w' m') (hf : m h.n = none) : Grow m m' h.n h'.n w := by
  cases k with
  | same e1 e2 e3 hv => subst e1; subst e3; exact Grow.refl _ _ _
  | made o cap e1 hn hs e3 ho hown hp hv =>
    subst e1; subst e3
    refine ⟨Mp.le_upd hf, fun b q hb hm => ?_, fun b hb hb' => ?_⟩
    · by_cases e : b = h.n
      · subst e; rw [Mp.upd_same] at hb; injection hb with hb; subst hb
        exact ⟨Nat.le_refl _, by simp, .inl (Nat.le_refl _)⟩
      · rw [Mp.upd_ne _ _ e, hm] at hb; cases hb
    · have : b = h.n := by simp at hb'; omega
      subst this; rw [Mp.upd_same]; rfl
theorem Still.cr (k : Still m h w v h' cv w' m') (hcr : CR m h w) : CR m' h' w' := by
  cases k with
  | same e1 e2 e3 hv => subst e1; subst e2; subst e3; exact hcr
  | made o cap e1 hn hs e3 ho hown hp hv =>
    have hf := hcr.fresh
    subst e1
    intro b q hb
    by_cases e : b = h.n
    · subst e
      rw [e3, Mp.upd_same] at hb; injection hb with hb; subst hb
      exact ⟨by simp, by simp [hs], o, by rw [AHeap.get_push, if_pos rfl], ho⟩
    · rw [e3, Mp.upd_ne _ _ e] at hb
      obtain ⟨h1, h2, ob, h3, h4⟩ := hcr b q hb
      refine ⟨by simp; omega, by rw [hs]; omega, ob, by rw [AHeap.get_push, if_neg e]; exact h3, ?_⟩
      exact (h4.same (hn.same _ h2)).mono (by rw [e3]; exact Mp.le_upd hf)
theorem Still.hr (k : Still m h w v h' cv w' m') (hh : HR P m h w) : HR P m' h' w' := by
  refine ⟨k.cr hh.cr, ?_, ?_, ?_⟩
  · cases k with
    | same e1 e2 e3 hv => subst e1; subst e2; subst e3; exact hh.sep
    | made o cap e1 hn hs e3 ho hown hp hv =>
      subst e1; subst e3
      intro b c qb qc ob oc hb hc hbc hgb hgc hown' hlive hblk
      rw [AHeap.get_push] at hgb hgc
      by_cases e : b = h.n
      · subst e
        rw [Mp.upd_same] at hb; injection hb with hb; subst hb
        rw [Mp.upd_ne _ _ (Ne.symm hbc)] at hc
        have := (hh.cr c qc hc).2.1
        simp only at hblk; omega
      · rw [Mp.upd_ne _ _ e] at hb
        rw [if_neg e] at hgb
        by_cases e' : c = h.n
        · subst e'
          rw [Mp.upd_same] at hc; injection hc with hc; subst hc
          have := (hh.cr b qb hb).2.1
          simp only at hblk; omega
        · rw [Mp.upd_ne _ _ e'] at hc
          rw [if_neg e'] at hgc
          exact hh.sep b c qb qc ob oc hb hc hbc hgb hgc hown' hlive hblk
  · intro g hg
    have h1 := hh.glob g hg
    cases k with
    | same e1 e2 e3 hv => subst e3; exact h1
    | made o cap e1 hn hs e3 ho hown hp hv =>
      have : g ≠ h.n := by have := (hh.cr g _ h1).1; omega
      rw [e3, Mp.upd_ne _ _ this]; exact h1
  · intro b q ob hb hgb p hp
    cases k with
    | same e1 e2 e3 hv => subst e1; subst e3; exact hh.prev b q ob hb hgb p hp
    | made o cap e1 hn hs e3 ho hown hpv hv =>
      subst e1
      rw [AHeap.get_push] at hgb
      by_cases e : b = h.n
      · rw [if_pos e] at hgb; injection hgb with hgb; subst hgb; rw [hpv] at hp; simp at hp
      · rw [if_neg e] at hgb
        rw [e3, Mp.upd_ne _ _ e] at hb
        have := hh.prev b q ob hb hgb p hp
        cases hmp : m p with
        | none => rw [hmp] at this; cases this
        | some qp => rw [e3, Mp.le_upd hh.cr.fresh _ _ hmp]; rfl

/-! ### new blocks -/

def pushW (w : World) (o : Obj) : World := { w with heap := w.heap.push o }
theorem pushW_new (w : World) (o : Obj) : New w (pushW w o) := ⟨rfl, rfl, rfl, by simp [pushW], fun r hr => by
  show (w.heap.push o)[r]? = w.heap[r]?
  rw [Array.getElem?_push, if_neg (by omega)]⟩
theorem pushW_size (w : World) (o : Obj) : (pushW w o).heap.size = w.heap.size + 1 := by simp [pushW]
theorem pushW_get (w : World) (o : Obj) : (pushW w o).heap[w.heap.size]? = some o := by
  show (w.heap.push o)[w.heap.size]? = some o
  simp
theorem run_newRow' (e : TypeId) (cs : Array Value) : (newRow e cs).run P w = .ok ⟨w.heap.size, 0, none⟩ (pushW w (.cells cs e)) := by
  simp [newRow, newObj, Sem.run, pushW]
theorem free_zero (cs : Array Value) : Free cs (0, 0) := fun i _ => by simp
/-- A new row of cells. -/
theorem still_row {l : List AV} {cs : Array Value} {e : TypeId} {ez cap : Nat} (hcr : CR m h w) (hl : VRL m l cs.toList) (hcap : cap * ez ≤ cs.size ∧ (ez ≠ 0 → l.length ≤ cap * ez))
    (hv : VR (m.upd h.n ⟨w.heap.size, 0, cap, true⟩) v cv) : Still m h w v (h.push (.cells l .rw [] ez)) cv (pushW w (.cells cs e)) (m.upd h.n ⟨w.heap.size, 0, cap, true⟩) := by
  refine .made _ cap rfl (pushW_new _ _) (pushW_size _ _) rfl ?_ trivial rfl hv
  refine .cells _ _ _ _ cs e (0, 0) (pushW_get _ _) ?_ fun _ => ⟨free_zero cs, by simpa using hcap.1, hcap.2, rfl⟩
  intro i x hx
  obtain ⟨c, hc, hr⟩ := (hl.mono (Mp.le_upd (q := ⟨w.heap.size, 0, cap, true⟩) hcr.fresh)).get (by rw [get?_eq]; exact hx)
  exact ⟨c, by simpa using hc, hr⟩
theorem vr_newP (cap : Nat) : VR (m.upd h.n ⟨w.heap.size, 0, cap, true⟩) (.p h.n 0) (.pointer (some ⟨w.heap.size, 0, none⟩)) :=
  VR.p h.n 0 ⟨w.heap.size, 0, cap, true⟩ (Mp.upd_same _ _ _)
theorem vr_newS (n : Nat) (cap : Nat) (c : ACap) (k : Nat) (hk : capOf ⟨w.heap.size, 0, cap, true⟩ c = k) (hn : n ≤ k) : VR (m.upd h.n ⟨w.heap.size, 0, cap, true⟩) (.sl h.n 0 n c) (.slice (some ⟨w.heap.size, 0, none⟩) n k) := by
  subst hk
  exact VR.sl h.n 0 n c ⟨w.heap.size, 0, cap, true⟩ _ (Mp.upd_same _ _ _) hn (.inl rfl)

theorem rep_length (n : Nat) (z : List AV) : (rep n z).length = n * z.length := by
  induction n with
  | zero => simp [rep]
  | succ n ih => simp [rep, ih, Nat.add_mul]; omega
theorem rep_get (n : Nat) (z : List AV) (i : Nat) (h : i < n * z.length) : (rep n z)[i]? = z[i % z.length]? := by
  induction n generalizing i with
  | zero => simp at h
  | succ n ih =>
    simp only [rep]
    by_cases hi : i < z.length
    · rw [List.getElem?_append_left hi, Nat.mod_eq_of_lt hi]
    · rw [List.getElem?_append_right (by omega), ih (i - z.length) (by rw [Nat.add_mul] at h; omega)]
      congr 1
      conv => rhs; rw [show i = (i - z.length) + z.length by omega]
      rw [Nat.add_mod_right]
theorem rep_VRL {z : List AV} {zero : Array Value} {n s : Nat} (hz : VRL m z zero.toList) (hs : z.length = s + 1) : VRL m (rep n z) ((Array.range (n * (s + 1))).map (zero[· % zero.size]!)).toList := by
  have hsz : zero.size = s + 1 := by have := hz.length; simp at this; omega
  refine .of_get (by rw [rep_length, hs]; simp) fun i x hx => ?_
  rw [get?_eq] at hx
  have hi : i < n * z.length := by
    rcases Nat.lt_or_ge i (n * z.length) with h' | h'
    · exact h'
    · rw [List.getElem?_eq_none (by rw [rep_length]; exact h')] at hx; cases hx
  rw [rep_get n z i hi] at hx
  obtain ⟨c, hc, hr⟩ := hz.get (by rw [get?_eq]; exact hx)
  refine ⟨c, ?_, hr⟩
  have hi' : i < n * (s + 1) := by rw [← hs]; exact hi
  have hm : i % zero.size < zero.size := Nat.mod_lt _ (by omega)
  rw [Array.getElem?_toList, Array.getElem?_map, Array.getElem?_range, if_pos hi']
  rw [hs, ← hsz, Array.getElem?_toList] at hc
  simp [getElem!_def, hc]
end
end Go.Av
