/- Arguments that are rows of structs: what is read, cell by cell. -/
import Derived.Test.YtliflkakagkofaaAvJ2
import Derived.ChangeArms
set_option linter.unusedVariables false
set_option linter.unusedSimpArgs false
set_option linter.unusedSectionVars false
namespace Go.Av
open Go.ChangeShapes Go.WideShapes Go.ChangeAt Go.RowKit
section
variable {H : Type} (enc : TypeId × Value → H) (P : Program) (w : World) (base : Nat) (spare : Nat → Bool) (held : Bool)
/-- Cells that read so: the machines know them as values of which this holds. -/
def Knows (cs : List Value) (Q : List PV → Prop) : Prop :=
  ∃ pvs, Q pvs ∧ cloL false pvs = true ∧ ∀ os, ∃ nw as, (∀ x ∈ nw, RoOk (mpOf (os ++ nw)) w x) ∧ VRL (mpOf (os ++ nw)) as cs ∧ VRelL (cxOf (os ++ nw)) pvs as ∧ okCells as = true
def Reads (t : TypeId) (Q : List PV → Prop) : Prop := ∀ fuel cs y, DataW.trod enc P w base spare held fuel t cs = some y → (∃ (B : Nat) (arr : Array Value) (T : TypeId) (fz : Nat × Nat), w.heap[B]? = some (Obj.cells arr T fz)) → Knows w cs Q
theorem okCells_append {a b : List AV} (h : okCells a = true) (k : okCells b = true) : okCells (a ++ b) = true := by
  induction a with
  | nil => exact k
  | cons x a ih =>
    simp only [List.cons_append, okCells] at h ⊢
    split at h
    · exact ih h
    · cases h
theorem cloL_app {bo : Bool} {a b : List PV} (h : cloL bo a = true) (k : cloL bo b = true) : cloL bo (a ++ b) = true := by
  induction a with
  | nil => exact k
  | cons x a ih =>
    simp only [List.cons_append, cloL, Bool.and_eq_true] at h ⊢
    exact ⟨h.1, ih h.2⟩
variable {w}
theorem knows_nil : Knows w [] (fun l => l = []) := ⟨[], rfl, rfl, fun os => ⟨[], [], fun x hx => (by cases hx), .nil, .nil, rfl⟩⟩
theorem Knows.append {cs cs' : List Value} {Q Q' : List PV → Prop} (h : Knows w cs Q) (k : Knows w cs' Q') : Knows w (cs ++ cs') (fun l => ∃ a b, Q a ∧ Q' b ∧ l = a ++ b) := by
  obtain ⟨p, hq, hc, h⟩ := h
  obtain ⟨p', hq', hc', k⟩ := k
  refine ⟨p ++ p', ⟨p, p', hq, hq', rfl⟩, cloL_app hc hc', fun os => ?_⟩
  obtain ⟨nw, as, h1, h2, h3, h4⟩ := h os
  obtain ⟨nw', as', k1, k2, k3, k4⟩ := k (os ++ nw)
  refine ⟨nw ++ nw', as ++ as', fun x hx => ?_, ?_, ?_, okCells_append h4 k4⟩ <;> rw [← List.append_assoc]
  · rcases List.mem_append.1 hx with hx | hx
    · exact (h1 x hx).mono (mpOf_le _ _)
    · exact k1 x hx
  · exact VRL.append (h2.mono (mpOf_le _ _)) k2
  · exact VRelL.append (VRelL.move (cxOf_mv _ _) h3 hc) k3
theorem Knows.imp {cs : List Value} {Q Q' : List PV → Prop} (h : Knows w cs Q) (k : ∀ l, Q l → Q' l) : Knows w cs Q' := by
  obtain ⟨p, hq, hc, h⟩ := h
  exact ⟨p, k p hq, hc, h⟩
variable (w) {enc P base spare held}
theorem reads_int {t : TypeId} (ht : P.underlying t = some (.int .i64)) : Reads enc P w base spare held t (fun l => ∃ n, l = [.i .i64 n]) := by
  intro fuel cs y h _
  obtain ⟨n, rfl, _, _⟩ := DataW.trod_int ht h
  exact ⟨[.i .i64 n], ⟨n, rfl⟩, rfl, fun os => ⟨[], [.i .i64 n], fun x hx => (by cases hx), .cons _ _ _ _ (.i _ _) .nil, .cons _ _ _ _ (.i _ _) .nil, rfl⟩⟩
theorem reads_bool {t : TypeId} (ht : P.underlying t = some .bool) : Reads enc P w base spare held t (fun l => ∃ b, l = [.b b]) := by
  intro fuel cs y h hb
  clear hb
  cases fuel with
  | zero => simp [DataW.trod] at h
  | succ fuel =>
    unfold DataW.trod at h
    rw [ht] at h
    split at h <;> simp_all
    rename_i b
    exact ⟨[.b b], by cases b <;> simp, rfl, fun os => ⟨[], [.b b], fun x hx => (by cases hx), .cons _ _ _ _ (.b _) .nil, .cons _ _ _ _ (.b _) .nil, rfl⟩⟩
theorem reads_string {t : TypeId} (ht : P.underlying t = some .string) : Reads enc P w base spare held t (fun l => ∃ s, l = [.s s]) := by
  intro fuel cs y h hb
  clear hb
  cases fuel with
  | zero => simp [DataW.trod] at h
  | succ fuel =>
    unfold DataW.trod at h
    rw [ht] at h
    split at h <;> simp_all
    rename_i s
    exact ⟨[.s s.data.toList], ⟨_, rfl⟩, rfl, fun os => ⟨[], [.s s.data.toList], fun x hx => (by cases hx), .cons _ _ _ _ (.s _ _ rfl) .nil, .cons _ _ _ _ (.s _) .nil, rfl⟩⟩
theorem add_add' (a : Addr) (x y : Nat) : (a.add x).add y = a.add (x + y) := by
  unfold Addr.add
  by_cases hx : x = 0
  · subst hx; simp
  · by_cases hy : y = 0
    · subst hy; simp [hx]
    · simp [hx, hy]; omega
/-- A row of what is known so. -/
theorem reads_slice {t e : TypeId} {Q : List PV → Prop} (ht : P.underlying t = some (.slice e)) (hp : 0 < P.cellsOf e) (hQ : ∀ l, Q l → l.length = P.cellsOf e) (he : Reads enc P w base (fun _ => true) held e Q) :
    Reads enc P w base (fun _ => true) held t (fun l => ∃ ls : List (List PV), (∀ p ∈ ls, Q p) ∧ l = [.ls (.v false false) ls.length ls.flatten] ∧ ls.length ≤ maxLen) := by
  intro fuel cs y h ⟨B, arr0, T0, fz0, hB⟩
  rcases DataW.trod_slice ht h with ⟨rfl, _⟩ | ⟨a, len, cap, elems, rest, n, _, rfl, _, hb, hl, hm, hlen, hel, hrest, _⟩
  · exact ⟨[.ls (.v false false) 0 []], ⟨[], by simp, rfl, by simp⟩, rfl, fun os => ⟨[], [.nils], fun x hx => (by cases hx), .cons _ _ _ _ .nils .nil, .cons _ _ _ _ (.ls0 _ _ _ trivial) .nil, rfl⟩⟩
  · -- the elements, one behind the other
    have each : ∀ i, i < len → ∃ cs, w.cells? base (a.add (i * P.cellsOf e)) (P.cellsOf e) = some cs ∧ Knows w cs Q := by
      intro i hi
      have h1 := hel i hi
      have h2 : ∃ z, elems[i]? = some z := ⟨_, List.getElem?_eq_getElem (by omega)⟩
      obtain ⟨z, hz⟩ := h2
      rw [hz, Option.bind_eq_some_iff] at h1
      obtain ⟨cs, h3, h4⟩ := h1
      exact ⟨cs, h3, he n cs z h4 ⟨B, arr0, T0, fz0, hB⟩⟩
    have all : ∀ m, m ≤ len → ∃ F : List Value, F.length = m * P.cellsOf e ∧ (∀ i, i < m * P.cellsOf e → w.cell? (a.add i) = F[i]?) ∧
        Knows w F (fun l => ∃ ls : List (List PV), ls.length = m ∧ (∀ p ∈ ls, Q p) ∧ l = ls.flatten) := by
      intro m
      induction m with
      | zero => intro _; exact ⟨[], by simp, fun i h => (by omega), knows_nil.imp (by rintro l rfl; exact ⟨[], rfl, by simp, rfl⟩)⟩
      | succ m ih =>
        intro hm'
        obtain ⟨F, h1, h2, h3⟩ := ih (by omega)
        obtain ⟨cs, h4, h5⟩ := each m (by omega)
        obtain ⟨_, h6, h7⟩ := World.cells?_some h4
        refine ⟨F ++ cs, by rw [List.length_append, h1, h6, Nat.succ_mul], fun i hi => ?_, ?_⟩
        · by_cases e1 : i < m * P.cellsOf e
          · rw [List.getElem?_append_left (by omega)]; exact h2 i e1
          · have hj : i - m * P.cellsOf e < P.cellsOf e := by rw [Nat.succ_mul] at hi; omega
            have h8 := h7 (i - m * P.cellsOf e) hj
            rw [List.getElem?_append_right (by omega), h1, ← h8, add_add']
            congr 2; omega
        · refine (h3.append h5).imp ?_
          rintro l ⟨p, q, ⟨ls, g1, g2, rfl⟩, g3, rfl⟩
          exact ⟨ls ++ [q], by simp [g1], by
            intro p hp
            rcases List.mem_append.1 hp with hp | hp
            · exact g2 p hp
            · have : p = q := by simpa using hp
              subst this; exact g3, by simp⟩
    obtain ⟨F, c1, c2, pvs, ⟨ls, g1, g2, rfl⟩, hclo, hk⟩ := all len (Nat.le_refl _)
    -- where it lies
    have here : 0 < cap → ∃ arr T fz, w.heap[a.block]? = some (Obj.cells arr T fz) ∧ a.spot = none := by
      intro hc
      have h1 : ∃ cs, w.cells? base (a.add (0 * P.cellsOf e)) (P.cellsOf e) = some cs := by
        by_cases h0 : 0 < len
        · obtain ⟨cs, h, _⟩ := each 0 h0
          exact ⟨cs, h⟩
        · obtain ⟨h2, h3⟩ := hrest rfl
          have h4 := h3 0 (by omega)
          have hz : ∃ z, rest[0]? = some z := ⟨_, List.getElem?_eq_getElem (by omega)⟩
          obtain ⟨z, hz⟩ := hz
          rw [hz, Option.bind_eq_some_iff] at h4
          obtain ⟨cs, h5, _⟩ := h4
          have : len = 0 := by omega
          subst this
          exact ⟨cs, by simpa using h5⟩
      obtain ⟨cs, h1⟩ := h1
      obtain ⟨_, h2, h3⟩ := World.cells?_some h1
      have h4 := h3 0 hp
      rw [List.getElem?_eq_getElem (by omega)] at h4
      have h5 : w.cell? a = some (cs[0]'(by omega)) := by simpa [Addr.add] using h4
      unfold World.cell? at h5
      split at h5
      · rename_i arr T fz e1
        split at h5
        · cases h5
        · rename_i hs
          exact ⟨arr, T, fz, e1, by cases hh : a.spot with
            | none => rfl
            | some _ => rw [hh] at hs; simp at hs⟩
      · cases h5
    refine ⟨[.ls (.v false false) ls.length ls.flatten], ⟨ls, g2, rfl, by omega⟩, rfl, fun os => ?_⟩
    obtain ⟨nw, as, k1, k2, k3, k4⟩ := hk os
    have hlenas : as.length = F.length := VRL.length k2
    by_cases hc : 0 < cap
    · obtain ⟨arr, T, fz, hw, hspot⟩ := here hc
      have ha : a = ⟨a.block, a.off, none⟩ := by cases a; simp at hspot; subst hspot; rfl
      let X : List AV × BI := (as, ⟨a.block, a.off, 0, false⟩)
      have hX : RoOk (mpOf (os ++ nw)) w X := by
        refine ⟨rfl, arr, T, fz, hw, fun i x hx => ?_⟩
        have hi : i < as.length := (List.getElem?_eq_some_iff.1 hx).1
        obtain ⟨v, hv, hvr⟩ := k2.get (i := i) (x := x) (by rw [get?_eq]; exact hx)
        have h1 := c2 i (by omega)
        rw [hv] at h1
        obtain ⟨arr', T', fz', hw', hv'⟩ := cell_at h1
        rw [hw] at hw'; injection hw' with hw'; injection hw' with e1; subst e1
        exact ⟨v, hv', hvr⟩
      refine ⟨nw ++ [X], [.sl (os ++ nw).length 0 len (.k cap)], fun x hx => ?_, ?_, ?_, rfl⟩ <;> rw [← List.append_assoc]
      · rcases List.mem_append.1 hx with hx | hx
        · exact (k1 x hx).mono (mpOf_le _ _)
        · have : x = X := by simpa using hx
          subst this; exact hX.mono (mpOf_le _ _)
      · refine .cons _ _ _ _ ?_ .nil
        exact VR.sl (os ++ nw).length 0 len (.k cap) ⟨a.block, a.off, 0, false⟩ a (mpOf_new _ X) (by simpa [capOf] using hl) (.inl ha)
      · refine .cons _ _ _ _ ?_ .nil
        rw [g1]
        refine .lsv _ _ _ _ _ _ _ ?_ (fun h => by cases h) (fun k hk => by cases hk; exact hl)
        refine .v _ _ _ as (os ++ nw).length 0 (VRelL.move (cxOf_mv _ _) k3 hclo) ⟨by simp [cxOf, heapOf], k4, as, .ro, [], 0, heapOf_get _ _ X (by simp), by rw [sub_eq]; simp⟩ rfl (fun _ => trivial) hclo
    · have hc0 : cap = 0 := by omega
      have hl0 : len = 0 := by omega
      subst hc0; subst hl0
      have hF : F = [] := by simpa using c1
      have hls : ls = [] := by simpa using g1
      subst hls
      let X : List AV × BI := ([], ⟨B, 0, 0, false⟩)
      have hX : ∀ m, RoOk m w X := fun m => ⟨rfl, arr0, T0, fz0, hB, fun i x hx => by simp [X] at hx⟩
      refine ⟨[X], [.sl os.length 0 0 (.k 0)], fun x hx => ?_, ?_, ?_, rfl⟩
      · have : x = X := by simpa using hx
        subst this; exact hX _
      · exact .cons _ _ _ _ (VR.sl os.length 0 0 (.k 0) ⟨B, 0, 0, false⟩ a (mpOf_new _ X) (Nat.le_refl _) (.inr rfl)) .nil
      · exact .cons _ _ _ _ (.ls0 _ _ _ ⟨rfl, fun _ => rfl⟩) .nil
/-- The fields of a struct, one behind the other. -/
def SQ : List (List PV → Prop) → List PV → Prop
  | [], l => l = []
  | Q :: r, l => ∃ a b, Q a ∧ SQ r b ∧ l = a ++ b
variable (enc P base held) in
def FldR (n : Nat) : Nat → List Field → List (List PV → Prop) → Prop
  | o, [], [] => o = n
  | o, f :: fs, Q :: Qs => f.offset = o ∧ Reads enc P w base (fun _ => true) held f.type Q ∧ FldR n (o + P.cellsOf f.type) fs Qs
  | _, _, _ => False
theorem knows_fields {cs : List Value} (hb : ∃ (B : Nat) (arr : Array Value) (T : TypeId) (fz : Nat × Nat), w.heap[B]? = some (Obj.cells arr T fz)) : ∀ (fs : List Field) (Qs : List (List PV → Prop)) (o : Nat),
    (∀ f ∈ fs, ∃ n y, DataW.trod enc P w base (fun _ => true) held n f.type ((cs.drop f.offset).take (P.cellsOf f.type)) = some y) → FldR enc P w base held cs.length o fs Qs → Knows w (cs.drop o) (SQ Qs)
  | [], [], o, _, h => by
    have h : o = cs.length := h
    subst h
    rw [List.drop_length]
    exact knows_nil
  | f :: fs, Q :: Qs, o, hf, h => by
    obtain ⟨ho, hr, h⟩ := h
    obtain ⟨n, y, hy⟩ := hf f (by simp)
    have k1 := hr n _ y hy hb
    have k2 := knows_fields hb fs Qs _ (fun g hg => hf g (by simp [hg])) h
    subst ho
    have e : cs.drop f.offset = (cs.drop f.offset).take (P.cellsOf f.type) ++ cs.drop (f.offset + P.cellsOf f.type) := by
      rw [← List.drop_drop, List.take_append_drop]
    rw [e]
    exact k1.append k2
  | [], _ :: _, _, _, h => h.elim
  | _ :: _, [], _, _, h => h.elim
theorem reads_struct {t : TypeId} {fs : Array Field} {Qs : List (List PV → Prop)} (ht : P.underlying t = some (.struct fs)) (h : FldR enc P w base held (P.cellsOf t) 0 fs.toList Qs) : Reads enc P w base (fun _ => true) held t (SQ Qs) := by
  intro fuel cs y hy hb
  obtain ⟨xs, n, _, _, hl, hlen, hx⟩ := DataW.trod_struct ht hy
  have := knows_fields (enc := enc) (base := base) (held := held) w hb fs.toList Qs 0 (fun f hf => by
    obtain ⟨i, hi, rfl⟩ := List.getElem_of_mem hf
    have hi' : i < fs.size := by simpa using hi
    have h1 := hx i fs[i] (by simp [hi'])
    rw [List.getElem?_eq_getElem (by omega)] at h1
    exact ⟨n, _, by simpa using h1⟩) (by rw [hl]; exact h)
  simpa using this
end
end Go.Av
