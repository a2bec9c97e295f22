/- Contracts of the functions that the law reaches. -/
import Derived.Test.YtgnpkjfaekimcaaDoorCon2
import Derived.Test.YtgnpkjfaekimcaaDoorAvJD
import Derived.Test.YtgnpkjfaekimcaaDoorCon1
set_option linter.unusedVariables false
set_option linter.unusedSimpArgs false
set_option linter.unusedSectionVars false
section
/- The law CheckNone on the second machine. -/
namespace Go.Av
theorem func_bad {E : KEnv} {b : List Int} {r : Int × Int} (h : funcK E b = some r) (hne : (allS numK b).2 ≠ 0) : r.2 = (allS numK b).2 := by
  unfold funcK at h
  rw [if_pos hne] at h
  injection h with h; subst h; rfl
theorem none_ok (k : Int) (b : List Int) (hb : Bytes b) : iso (PC pfs) 8 [.i .i64 k, .ls (.v false false) b.length (b.flatMap encU)] = some (.b true) := by
  have hkn := known_ok
  unfold iso
  rw [PC_eq (F := pf8) rfl]
  by_cases h100 : 100 < b.length
  · have c : (100 : Int) < (b.length : Int) := by omega
    simp [-prunOps, pf8, hkn, c]
  · have c : ¬ ((100 : Int) < (b.length : Int)) := by omega
    obtain ⟨r0, hr0⟩ := func_ends ⟨[], (0 : Nat), (2 : Nat)⟩ b
    have h0 := func0_ok 0 [] 2 [.ls (.v false false) b.length (b.flatMap encU), .ls (.v false false) 1 [.i .u8 0]] 0 false b hb (by omega) (by omega) rfl r0 hr0
    have h1 := func0_ok 0 [] 2 [.ls (.v false false) b.length (b.flatMap encU), .ls (.v false false) 1 [.i .u8 0]] 1 false [0] (bytes1 0 (by omega)) (by simp) (by omega) rfl (0, 0) (by kernel_rfl)
    have hn := fun h => func_none (px0 0 [] 2 [.ls (.v false false) b.length (b.flatMap encU), .ls (.v false false) 1 [.i .u8 0]]) k h
    have hz := func0_ok 0 [] 1 [.ls (.v false false) 0 []] 0 false [] (fun _ h => by cases h) (by simp) (by omega) rfl (0, 17) (by kernel_rfl)
    have hA := rall_ok false b hb (by omega)
    have hsame := all_same numR numK b b.length 0 [] []
    have e1 : allF numR b b.length 0 [] = allS numR b := rfl
    have e2 : allF numK b b.length 0 [] = allS numK b := rfl
    rw [e1, e2] at hsame
    have hbad := func_bad hr0
    rw [← hsame] at hbad
    generalize allS numR b = as at *
    obtain ⟨l, f⟩ := as
    obtain ⟨g1, g⟩ := r0
    simp only [px0, PX.img] at h0 h1 hn hz hA hbad
    simp at h0 h1 hz
    rcases hA with ⟨hf, hA⟩ | ⟨hf, hln, hA⟩
    · by_cases c1 : k < 0
      · have hn' := hn (.inl c1)
        have c1' : ¬ 0 ≤ k := by omega
        simp [-prunOps, pf8, hkn, c, h0, hn', hz, hA, c1, c1', hf]
      · have c1' : 0 ≤ k := by omega
        by_cases c2 : k < 2
        · have : k = 0 ∨ k = 1 := by omega
          rcases this with rfl | rfl
          · simp [-prunOps, pf8, hkn, c, h0, hz, hA, hf]
          · simp [-prunOps, pf8, hkn, c, h0, h1, hz, hA, hf]
        · have hn' := hn (.inr (by show (2 : Int) ≤ k; omega))
          have c2' : 2 ≤ k := by omega
          simp [-prunOps, pf8, hkn, c, h0, hn', hz, hA, c1, c1', c2, c2', hf]
    · have hg := hbad hf
      subst hg
      by_cases c1 : k < 0
      · have hn' := hn (.inl c1)
        have c1' : ¬ 0 ≤ k := by omega
        simp [-prunOps, pf8, hkn, c, h0, hn', hz, hA, c1, c1', hf]
      · have c1' : 0 ≤ k := by omega
        by_cases c2 : k < 2
        · have : k = 0 ∨ k = 1 := by omega
          rcases this with rfl | rfl
          · simp [-prunOps, pf8, hkn, c, h0, hz, hA, hf]
          · simp [-prunOps, pf8, hkn, c, h0, h1, hz, hA, hf]
        · have hn' := hn (.inr (by show (2 : Int) ≤ k; omega))
          have c2' : 2 ≤ k := by omega
          simp [-prunOps, pf8, hkn, c, h0, hn', hz, hA, c1, c1', c2, c2', hf]
end Go.Av
end
section
/- An argument that is bytes. -/
namespace Go.Av
open Go.ChangeShapes Go.WideShapes Go.ChangeAt Go.RowKit
theorem flatU (l : List Int) : l.flatMap encU = l.map (PV.i .u8) := by
  induction l with
  | nil => rfl
  | cons a l ih => simp [encU, ih]
theorem rel_u8 (X : Cx) : ∀ l : List Int, VRelL X (l.map (PV.i .u8)) (l.map (AV.i .u8))
  | [] => .nil
  | a :: l => .cons _ _ _ _ (.i _ _) (rel_u8 X l)
theorem ok_u8 : ∀ l : List Int, okCells (l.map (AV.i .u8)) = true
  | [] => rfl
  | a :: l => by simp [okCells, AV.okCell, ok_u8 l]
theorem clo_u8 : ∀ l : List Int, cloL false (l.map (PV.i .u8)) = true
  | [] => rfl
  | a :: l => by simp [cloL, isClo, clo_u8 l]
theorem mpD_new (os : List (AObj × BI)) (x : AObj × BI) : mpD (os ++ [x]) os.length = some x.2 := by simp [mpD]
theorem argD_bytes {H : Type} {enc : TypeId × Value → H} {P : Program} {w : World} {base b0 : Nat} {spare : Nat → Bool} {held : Bool} {r : Reach} {t e : TypeId} {v : Value} {d : DataW H} {ps : List MemPlace}
    (ht : P.underlying t = some (.slice e)) (he : P.underlying e = some (.int .u8)) (hc : P.cellsOf e = 1) (hval : Value.okWide P w r b0 t v) (hd : DataW.Trod enc P w base spare held t v d ps) :
    ∃ ns : List Int, Bytes ns ∧ ArgD w v (.ls (.v false false) ns.length (ns.flatMap encU)) := by
  obtain ⟨fuel, hf⟩ := hd
  rcases open_ints ht he hc hf with ⟨hcs, _⟩ | ⟨a, len, cap, zs, hcs, _, hl, _, hzl, _, hcell, hwf⟩
  · have hv : v = .slice none 0 0 := by
      cases v <;> simp [Value.cells] at hcs
      · rename_i x y z; obtain ⟨rfl, rfl, rfl⟩ := hcs; rfl
      · rename_i x; simp [Value.okWide, ht, Cell.okWide, Cell.ok] at hval
    subst hv
    exact ⟨[], fun x hx => (by cases hx), rfl, fun os => ⟨[], .nils, fun x hx => (by cases hx), .nils, .ls0 _ _ _ trivial⟩⟩
  · have hv : v = .slice (some a) len cap := by
      cases v <;> simp [Value.cells] at hcs
      · rename_i x y z; obtain ⟨rfl, rfl, rfl⟩ := hcs; rfl
      · rename_i x; simp [Value.okWide, ht, Cell.okWide, Cell.ok] at hval
    subst hv
    have hhas : w.has P r b0 a e cap := by
      simp [Value.okWide, ht, Cell.okWide, Cell.ok] at hval
      exact hval.2.2
    obtain ⟨_, hspot, row, cells, hsh, _⟩ := hhas
    obtain ⟨arr, T, fz, hw⟩ : ∃ arr T fz, w.heap[a.block]? = some (.cells arr T fz) := by
      unfold World.shape? at hsh
      split at hsh
      · rename_i c el fz e; exact ⟨c, el, fz, e⟩
      · cases hsh
    have hlen : len ≤ zs.length := by rw [hzl]; split <;> omega
    let ns := zs.take len
    have hns : ns.length = len := by simp [ns]; omega
    have hbs : Bytes ns := by
      intro x hx
      have := hwf x (List.mem_of_mem_take hx)
      simp [Lit.wf, IntKind.min, IntKind.max, IntKind.signed, IntKind.bits] at this
      omega
    have hro : ∀ m, DOk m w (.cells (ns.map (AV.i .u8)) .ro [] 0, ⟨a.block, a.off, 0, false⟩) := by
      intro m
      refine ⟨rfl, (Array.getElem?_eq_some_iff.1 hw).1, .inr ⟨_, arr, T, fz, rfl, hw, fun i x hx => ?_⟩⟩
      have hi : i < ns.length := by
        rcases Nat.lt_or_ge i ns.length with h | h
        · exact h
        · rw [List.getElem?_eq_none (by simpa using h)] at hx; cases hx
      obtain ⟨arr', T', fz', hw', hv'⟩ := cell_at (hcell i (by omega))
      rw [hw] at hw'; injection hw' with hw'; injection hw' with h1 h2 h3; subst h1
      refine ⟨_, hv', ?_⟩
      have : x = .i .u8 (zs.getD i 0) := by
        have h2 : (ns.map (AV.i .u8))[i]? = some (.i .u8 (zs.getD i 0)) := by
          simp [ns, List.getElem?_take, show i < len by omega, show i < zs.length by omega, List.getD]
        rw [h2] at hx; injection hx with hx; exact hx.symm
      rw [this]; exact .i _ _
    have hsl : (Value.slice (some a) len cap) = .slice (some ⟨a.block, a.off + 0, none⟩) len cap := by
      have : a = ⟨a.block, a.off, none⟩ := by cases a; simp at hspot; subst hspot; rfl
      exact congrArg (fun x => Value.slice (some x) len cap) this
    refine ⟨ns, hbs, rfl, fun os => ⟨[(.cells (ns.map (AV.i .u8)) .ro [] 0, ⟨a.block, a.off, 0, false⟩)], .sl os.length 0 len (.k cap), fun x hx => ?_, ?_, ?_⟩⟩
    · have : x = (.cells (ns.map (AV.i .u8)) .ro [] 0, ⟨a.block, a.off, 0, false⟩) := by simpa using hx
      subst this; exact hro _
    · rw [hsl]
      exact VR.sl os.length 0 len (.k cap) ⟨a.block, a.off, 0, false⟩ _ (mpD_new _ _) (by simpa [capOf] using hl) (.inl rfl)
    · rw [flatU, hns]
      refine .lsv _ _ _ _ _ _ _ ?_ (fun h => by cases h) (fun k hk => by cases hk; exact hl)
      refine .v _ _ _ (ns.map (AV.i .u8)) os.length 0 (rel_u8 _ _) ⟨by simp [cxD, heapD], ok_u8 _, ns.map (AV.i .u8), .ro, [], 0, heapD_get _ _ (.cells (ns.map (AV.i .u8)) .ro [] 0, ⟨a.block, a.off, 0, false⟩) (by simp), ?_⟩ rfl (fun _ => trivial) (clo_u8 _)
      rw [sub_eq]; simp
end Go.Av
end
