/- Arguments that are rows of integers. -/
import Derived.Test.YtliflkakagkofaaAvJ
import Derived.Test.YtliflkakagkofaaAvD
import Derived.ChangeSlices
import Derived.ChangeShapes
set_option linter.unusedVariables false
set_option linter.unusedSimpArgs false
set_option linter.unusedSectionVars false
namespace Go.Av
open Go.ChangeShapes Go.WideShapes Go.ChangeAt Go.RowKit
theorem mpOf_new (os : List (List AV × BI)) (x : List AV × BI) : mpOf (os ++ [x]) os.length = some x.2 := by simp [mpOf]
theorem flatI (l : List Int) : l.flatMap encI = l.map (PV.i .i64) := by
  induction l with
  | nil => rfl
  | cons a l ih => simp [encI, ih]
theorem rel_ints (X : Cx) : ∀ l : List Int, VRelL X (l.map (PV.i .i64)) (l.map (AV.i .i64))
  | [] => .nil
  | a :: l => .cons _ _ _ _ (.i _ _) (rel_ints X l)
theorem ok_ints : ∀ l : List Int, okCells (l.map (AV.i .i64)) = true
  | [] => rfl
  | a :: l => by simp [okCells, AV.okCell, ok_ints l]
theorem clo_ints : ∀ l : List Int, cloL false (l.map (PV.i .i64)) = true
  | [] => rfl
  | a :: l => by simp [cloL, isClo, clo_ints l]
theorem cell_at {w : World} {a : Addr} {i : Nat} {v : Value} (h : w.cell? (a.add i) = some v) : ∃ arr T fz, w.heap[a.block]? = some (.cells arr T fz) ∧ arr[a.off + i]? = some v := by
  unfold World.cell? at h
  have hb : (a.add i).block = a.block := by unfold Addr.add; split <;> rfl
  have ho : (a.add i).off = a.off + i := by
    unfold Addr.add; split
    · rename_i e; subst e; rfl
    · rfl
  rw [hb, ho] at h
  split at h
  · rename_i c T fz e
    split at h
    · cases h
    · exact ⟨c, T, fz, e, h⟩
  · cases h
/-- A row of integers: what the machines know it as. -/
theorem arg_ints {H : Type} {enc : TypeId × Value → H} {P : Program} {w : World} {base b0 : Nat} {spare : Nat → Bool} {held : Bool} {r : Reach} {t e : TypeId} {v : Value} {d : DataW H} {ps : List MemPlace}
    (ht : P.underlying t = some (.slice e)) (he : P.underlying e = some (.int .i64)) (hc : P.cellsOf e = 1) (hval : Value.okWide P w r b0 t v) (hd : DataW.Trod enc P w base spare held t v d ps) :
    ∃ ns : List Int, ∀ os : List (List AV × BI), ∃ (nw : List (List AV × BI)) (a : AV), (∀ x ∈ nw, RoOk (mpOf (os ++ nw)) w x) ∧ VR (mpOf (os ++ nw)) a v ∧ VRel (cxOf (os ++ nw)) (.ls (.v false false) ns.length (ns.flatMap encI)) a := by
  obtain ⟨fuel, hf⟩ := hd
  rcases open_ints ht he hc hf with ⟨hcs, _⟩ | ⟨a, len, cap, zs, hcs, _, hl, _, hzl, _, hcell, _⟩
  · have hv : v = .slice none 0 0 := by
      cases v <;> simp [Value.cells] at hcs
      · rename_i x y z; obtain ⟨rfl, rfl, rfl⟩ := hcs; rfl
      · rename_i x; simp [Value.okWide, ht, Cell.okWide, Cell.ok] at hval
    subst hv
    exact ⟨[], fun os => ⟨[], .nils, fun x hx => (by cases hx), .nils, .ls0 _ _ _ trivial⟩⟩
  · have hv : v = .slice (some a) len cap := by
      cases v <;> simp [Value.cells] at hcs
      · rename_i x y z; obtain ⟨rfl, rfl, rfl⟩ := hcs; rfl
      · rename_i x; simp [Value.okWide, ht, Cell.okWide, Cell.ok] at hval
    subst hv
    have hhas : w.has P r b0 a e cap := by
      simp [Value.okWide, ht, Cell.okWide, Cell.ok] at hval
      exact hval.2.2
    obtain ⟨_, hspot, row, cells, hsh, _⟩ := hhas
    obtain ⟨arr, T, fz, hw⟩ : ∃ arr T fz, w.heap[a.block]? = some (.cells arr T fz) := by
      unfold World.shape? at hsh
      split at hsh
      · rename_i c el fz e; exact ⟨c, el, fz, e⟩
      · cases hsh
    have hlen : len ≤ zs.length := by rw [hzl]; split <;> omega
    let ns := zs.take len
    have hns : ns.length = len := by simp [ns]; omega
    have hro : ∀ m, RoOk m w (ns.map (AV.i .i64), ⟨a.block, a.off, 0, false⟩) := by
      intro m
      refine ⟨rfl, arr, T, fz, hw, fun i x hx => ?_⟩
      have hi : i < ns.length := by
        rcases Nat.lt_or_ge i ns.length with h | h
        · exact h
        · rw [List.getElem?_eq_none (by simpa using h)] at hx; cases hx
      obtain ⟨arr', T', fz', hw', hv'⟩ := cell_at (hcell i (by omega))
      rw [hw] at hw'; injection hw' with hw'; injection hw' with h1 h2 h3; subst h1
      refine ⟨_, hv', ?_⟩
      have : x = .i .i64 (zs.getD i 0) := by
        have h2 : (ns.map (AV.i .i64))[i]? = some (.i .i64 (zs.getD i 0)) := by
          simp [ns, List.getElem?_take, show i < len by omega, show i < zs.length by omega, List.getD]
        rw [h2] at hx; injection hx with hx; exact hx.symm
      rw [this]; exact .i _ _
    have hsl : (Value.slice (some a) len cap) = .slice (some ⟨a.block, a.off + 0, none⟩) len cap := by
      have : a = ⟨a.block, a.off, none⟩ := by cases a; simp at hspot; subst hspot; rfl
      exact congrArg (fun x => Value.slice (some x) len cap) this
    refine ⟨ns, fun os => ⟨[(ns.map (AV.i .i64), ⟨a.block, a.off, 0, false⟩)], .sl os.length 0 len (.k cap), fun x hx => ?_, ?_, ?_⟩⟩
    · have : x = (ns.map (AV.i .i64), ⟨a.block, a.off, 0, false⟩) := by simpa using hx
      subst this; exact hro _
    · rw [hsl]
      exact VR.sl os.length 0 len (.k cap) ⟨a.block, a.off, 0, false⟩ _ (mpOf_new _ _) (by simpa [capOf] using hl) (.inl rfl)
    · rw [flatI, hns]
      refine .lsv _ _ _ _ _ _ _ ?_ (fun h => by cases h) (fun k hk => by cases hk; exact hl)
      refine .v _ _ _ (ns.map (AV.i .i64)) os.length 0 (rel_ints _ _) ⟨by simp [cxOf, heapOf], ok_ints _, ns.map (AV.i .i64), .ro, [], 0, heapOf_get _ _ (ns.map (AV.i .i64), ⟨a.block, a.off, 0, false⟩) (by simp), ?_⟩ rfl (fun _ => trivial) (clo_ints _)
      rw [sub_eq]; simp
/-! ## Arguments, one behind the other -/
theorem mpOf_le (os nw : List (List AV × BI)) : (mpOf os).Le (mpOf (os ++ nw)) := by
  intro b q h
  unfold mpOf at h ⊢
  cases e : os[b]? with
  | none => rw [e] at h; cases h
  | some x => rw [List.getElem?_append_left (List.getElem?_eq_some_iff.1 e).1, e]; rw [e] at h; exact h
theorem cxOf_mv (os nw : List (List AV × BI)) : Mv false (cxOf os) (cxOf (os ++ nw)) := by
  intro B ho hB _
  have hB : B < os.length := hB
  obtain ⟨x, hx⟩ : ∃ x, os[B]? = some x := ⟨_, List.getElem?_eq_getElem hB⟩
  refine ⟨rfl, ?_, by show B < (os ++ nw).length; simp; omega, fun _ => trivial⟩
  show (heapOf (os ++ nw)).get B = (heapOf os).get B
  rw [heapOf_get _ _ x (by rw [List.getElem?_append_left hB, hx]), heapOf_get _ _ x hx]
theorem RoOk.mono {m m' : Mp} {w : World} {x : List AV × BI} (h : RoOk m w x) (k : m.Le m') : RoOk m' w x := by
  obtain ⟨h1, arr, T, fz, h2, h3⟩ := h
  exact ⟨h1, arr, T, fz, h2, h3.mono k⟩
/-- A value that the machines know as this. -/
def ArgOk (w : World) (v : Value) (pv : PV) : Prop := isClo false pv = true ∧ ∀ os, ∃ nw a, (∀ x ∈ nw, RoOk (mpOf (os ++ nw)) w x) ∧ VR (mpOf (os ++ nw)) a v ∧ VRel (cxOf (os ++ nw)) pv a
def ArgsOk (w : World) (vs : List Value) (pvs : List PV) : Prop := cloL false pvs = true ∧ ∀ os, ∃ nw as, (∀ x ∈ nw, RoOk (mpOf (os ++ nw)) w x) ∧ VRL (mpOf (os ++ nw)) as vs ∧ VRelL (cxOf (os ++ nw)) pvs as
theorem args_nil (w : World) : ArgsOk w [] [] := ⟨rfl, fun os => ⟨[], [], fun x hx => (by cases hx), .nil, .nil⟩⟩
theorem args_cons {w : World} {v : Value} {pv : PV} {vs : List Value} {pvs : List PV} (h : ArgOk w v pv) (hl : ArgsOk w vs pvs) : ArgsOk w (v :: vs) (pv :: pvs) := by
  obtain ⟨hc, h⟩ := h
  obtain ⟨hcl, hl⟩ := hl
  refine ⟨by rw [cloL, hc, hcl]; rfl, fun os => ?_⟩
  obtain ⟨nw, a, h1, h2, h3⟩ := h os
  obtain ⟨nw', as, k1, k2, k3⟩ := hl (os ++ nw)
  refine ⟨nw ++ nw', a :: as, fun x hx => ?_, ?_, ?_⟩ <;> rw [← List.append_assoc]
  · rcases List.mem_append.1 hx with hx | hx
    · exact (h1 x hx).mono (mpOf_le _ _)
    · exact k1 x hx
  · exact .cons _ _ _ _ (h2.mono (mpOf_le _ _)) k2
  · exact .cons _ _ _ _ (VRel.move (cxOf_mv _ _) h3 hc) k3
theorem arg_int (w : World) (n : Int) : ArgOk w (.int .i64 n) (.i .i64 n) := ⟨rfl, fun os => ⟨[], _, fun x hx => (by cases hx), .i _ _, .i _ _⟩⟩
theorem arg_bool (w : World) (b : Bool) : ArgOk w (.bool b) (.b b) := ⟨rfl, fun os => ⟨[], _, fun x hx => (by cases hx), .b _, .b _⟩⟩
theorem arg_row {H : Type} {enc : TypeId × Value → H} {P : Program} {w : World} {base b0 : Nat} {spare : Nat → Bool} {held : Bool} {r : Reach} {t e : TypeId} {v : Value} {d : DataW H} {ps : List MemPlace}
    (ht : P.underlying t = some (.slice e)) (he : P.underlying e = some (.int .i64)) (hc : P.cellsOf e = 1) (hval : Value.okWide P w r b0 t v) (hd : DataW.Trod enc P w base spare held t v d ps) :
    ∃ ns : List Int, ArgOk w v (.ls (.v false false) ns.length (ns.flatMap encI)) := by
  obtain ⟨ns, h⟩ := arg_ints ht he hc hval hd
  exact ⟨ns, rfl, h⟩
/-- The join, of arguments that are known so. -/
theorem join_args {P : Program} {pf : Nat → Option PFunc} {fns : Nat → Option AFunc} (hf : FnsOk P fns) (hpf : ∀ f F, pf f = some F → fns f = some F.era) (hmix : P.follows .mixedOrders = true) (hg : P.globals.size = 0)
    {w : World} {f : Nat} {pas : List PV} {cargs : Array Value} (ha : ArgsOk w cargs.toList pas) {b : Bool} (e : iso (PC pf) f pas = some (.b b)) : Calls P f cargs w fun e w' => e = .returned (.bool b) ∧ Below w.heap.size w w' := by
  obtain ⟨σ, h⟩ := iso_bool e
  obtain ⟨nw, as, h1, h2, h3⟩ := ha.2 []
  exact join hf hpf hmix hg h1 h3 h2 h
end Go.Av
