/- Arguments that are variables. -/
import Derived.Test.YtliflkakagkofaaRows
import Derived.Test.YtliflkakagkofaaAvJ3
import Derived.KernelRfl
set_option linter.unusedVariables false
set_option linter.unusedSimpArgs false
set_option linter.unusedSectionVars false
namespace Go.Av
open Go.Proofs
theorem choose_list {α : Type} {enc : α → List PV} {R : α → Prop} : ∀ ls : List (List PV), (∀ p ∈ ls, ∃ s, R s ∧ p = enc s) → ∃ ss : List α, (∀ s ∈ ss, R s) ∧ ls = ss.map enc
  | [], _ => ⟨[], by simp, rfl⟩
  | p :: ls, h => by
    obtain ⟨s, hs, rfl⟩ := h p (by simp)
    obtain ⟨ss, h1, rfl⟩ := choose_list ls (fun q hq => h q (by simp [hq]))
    exact ⟨s :: ss, by
      intro x hx
      rcases List.mem_cons.1 hx with rfl | hx
      · exact hs
      · exact h1 x hx, rfl⟩
theorem rows_of {α : Type} {enc : α → List PV} {R : α → Prop} {ls : List (List PV)} (h : ∀ p ∈ ls, ∃ s, R s ∧ p = enc s) : ∃ ss : List α, (∀ s ∈ ss, R s) ∧ ss.length = ls.length ∧ ls.flatten = ss.flatMap enc := by
  obtain ⟨ss, h1, rfl⟩ := choose_list ls h
  exact ⟨ss, h1, by simp, by simp [List.flatMap_def]⟩
/-- A variable that came in. -/
def Came (s : PSym) : Prop := s.bor = false ∧ s.type.fields.length ≤ 9223372036854775807
section
variable {H : Type} {enc : TypeId × Value → H} (w : World) {base : Nat} {held : Bool}
theorem r3 : Reads enc Try.prog w base (fun _ => true) held 3 (fun l => ∃ n, l = [.i .i64 n]) := reads_int w Try.underlying3
theorem r23 : Reads enc Try.prog w base (fun _ => true) held 23 (fun l => ∃ ls : List (List PV), (∀ p ∈ ls, ∃ n, p = [.i .i64 n]) ∧ l = [.ls (.v false false) ls.length ls.flatten] ∧ ls.length ≤ maxLen) :=
  reads_slice w Try.underlying23 (by rw [(by kernel_rfl : Try.prog.cellsOf 3 = 1)]; omega) (by rintro l ⟨n, rfl⟩; exact (by kernel_rfl : 1 = Try.prog.cellsOf 3)) (r3 w)
theorem r50 : Reads enc Try.prog w base (fun _ => true) held 50 (SQ [fun l => ∃ s, l = [.s s], fun l => ∃ n, l = [.i .i64 n]]) :=
  reads_struct w Try.underlying50 ⟨rfl, reads_string w Try.underlying9, (by kernel_rfl : 1 = 0 + Try.prog.cellsOf 9), r3 w, (by kernel_rfl : 0 + Try.prog.cellsOf 9 + Try.prog.cellsOf 3 = Try.prog.cellsOf 50)⟩
theorem q50 {l : List PV} (h : SQ [fun l => ∃ s, l = [.s s], fun l => ∃ n, l = [.i .i64 n]] l) : ∃ f : PFld, True ∧ l = f.enc := by
  obtain ⟨a, b, ⟨s, rfl⟩, ⟨c, d, ⟨n, rfl⟩, rfl, rfl⟩, rfl⟩ := h
  exact ⟨⟨s, n⟩, trivial, rfl⟩
theorem r28 : Reads enc Try.prog w base (fun _ => true) held 28 (fun l => ∃ fs : List PFld, fs.length ≤ 9223372036854775807 ∧ l = [vl PFld.enc fs]) := by
  intro fuel cs y h hb
  refine (reads_slice w Try.underlying28 (by rw [(by kernel_rfl : Try.prog.cellsOf 50 = 2)]; omega) (fun l hl => ?_) (r50 w) fuel cs y h hb).imp ?_
  · obtain ⟨f, _, rfl⟩ := q50 hl
    exact (by kernel_rfl : 2 = Try.prog.cellsOf 50)
  · rintro l ⟨ls, h1, rfl, h2⟩
    obtain ⟨fs, _, h3, h4⟩ := rows_of (fun p hp => q50 (h1 p hp))
    exact ⟨fs, by rw [h3]; exact h2, by rw [vl, h3, h4]⟩
theorem r30 : Reads enc Try.prog w base (fun _ => true) held 30 (fun l => ∃ t : PTy, t.fields.length ≤ 9223372036854775807 ∧ l = t.enc) := by
  intro fuel cs y h hb
  refine (reads_struct w Try.underlying30 (Qs := [fun l => ∃ n, l = [.i .i64 n], fun l => ∃ n, l = [.i .i64 n], fun l => ∃ n, l = [.i .i64 n], fun l => ∃ fs : List PFld, fs.length ≤ 9223372036854775807 ∧ l = [vl PFld.enc fs]])
    ⟨rfl, r3 w, (by kernel_rfl : 1 = 0 + Try.prog.cellsOf 3), r3 w, (by kernel_rfl : 2 = 0 + Try.prog.cellsOf 3 + Try.prog.cellsOf 3), r3 w, (by kernel_rfl : 3 = 0 + Try.prog.cellsOf 3 + Try.prog.cellsOf 3 + Try.prog.cellsOf 3), r28 w,
      (by kernel_rfl : 0 + Try.prog.cellsOf 3 + Try.prog.cellsOf 3 + Try.prog.cellsOf 3 + Try.prog.cellsOf 28 = Try.prog.cellsOf 30)⟩ fuel cs y h hb).imp ?_
  rintro l ⟨_, _, ⟨k, rfl⟩, ⟨_, _, ⟨e, rfl⟩, ⟨_, _, ⟨n, rfl⟩, ⟨_, _, ⟨fs, hf, rfl⟩, rfl, rfl⟩, rfl⟩, rfl⟩, rfl⟩
  exact ⟨⟨k, e, n, fs⟩, hf, rfl⟩
theorem r32 : Reads enc Try.prog w base (fun _ => true) held 32 (fun l => ∃ s : PSym, Came s ∧ l = s.enc) := by
  intro fuel cs y h hb
  refine (reads_struct w Try.underlying32 (Qs := [fun l => ∃ s, l = [.s s], fun l => ∃ t : PTy, t.fields.length ≤ 9223372036854775807 ∧ l = t.enc, fun l => ∃ b, l = [.b b], fun l => ∃ ls : List (List PV), (∀ p ∈ ls, ∃ n, p = [.i .i64 n]) ∧ l = [.ls (.v false false) ls.length ls.flatten] ∧ ls.length ≤ maxLen])
    ⟨rfl, reads_string w Try.underlying9, (by kernel_rfl : 1 = 0 + Try.prog.cellsOf 9), r30 w, (by kernel_rfl : 5 = 0 + Try.prog.cellsOf 9 + Try.prog.cellsOf 30), reads_bool w Try.underlying4, (by kernel_rfl : 6 = 0 + Try.prog.cellsOf 9 + Try.prog.cellsOf 30 + Try.prog.cellsOf 4), r23 w,
      (by kernel_rfl : 0 + Try.prog.cellsOf 9 + Try.prog.cellsOf 30 + Try.prog.cellsOf 4 + Try.prog.cellsOf 23 = Try.prog.cellsOf 32)⟩ fuel cs y h hb).imp ?_
  rintro l ⟨_, _, ⟨s, rfl⟩, ⟨_, _, ⟨t, ht, rfl⟩, ⟨_, _, ⟨b, rfl⟩, ⟨_, _, ⟨ls, h1, rfl, _⟩, rfl, rfl⟩, rfl⟩, rfl⟩, rfl⟩
  obtain ⟨ns, _, h3, h4⟩ := rows_of (enc := encI) (R := fun _ => True) (fun p hp => by obtain ⟨n, rfl⟩ := h1 p hp; exact ⟨n, trivial, rfl⟩)
  refine ⟨⟨s, t, b, ns, false⟩, ⟨rfl, ht⟩, ?_⟩
  rw [← h3, h4]; rfl
theorem arg_syms {r : Reach} {b0 : Nat} {v : Value} {d : DataW H} {ps : List MemPlace} (hval : Value.okWide Try.prog w r b0 22 v) (hd : DataW.Trod enc Try.prog w base (fun _ => true) held 22 v d ps) :
    ∃ ss : List PSym, (∀ s ∈ ss, Came s) ∧ ss.length ≤ 9223372036854775807 ∧ ArgOk w v (.ls (.v false false) ss.length (ss.flatMap PSym.enc)) := by
  obtain ⟨fuel, hf⟩ := hd
  have hcell : v.cells.toList = [v] ∧ (v = .slice none 0 0 ∨ ∃ (B : Nat) (arr : Array Value) (T : TypeId) (fz : Nat × Nat), w.heap[B]? = some (Obj.cells arr T fz)) := by
    rcases DataW.trod_slice Try.underlying22 hf with ⟨hcs, _⟩ | ⟨a, len, cap, _, _, _, _, hcs, _⟩
    · have hv : v = .slice none 0 0 := by
        cases v <;> simp [Value.cells] at hcs
        · rename_i x y z; obtain ⟨rfl, rfl, rfl⟩ := hcs; rfl
        · rename_i x; simp [Value.okWide, Try.underlying22, Cell.okWide, Cell.ok] at hval
      subst hv
      exact ⟨rfl, .inl rfl⟩
    · have hv : v = .slice (some a) len cap := by
        cases v <;> simp [Value.cells] at hcs
        · rename_i x y z; obtain ⟨rfl, rfl, rfl⟩ := hcs; rfl
        · rename_i x; simp [Value.okWide, Try.underlying22, Cell.okWide, Cell.ok] at hval
      subst hv
      refine ⟨rfl, .inr ?_⟩
      have hhas : w.has Try.prog r b0 a 32 cap := by
        simp [Value.okWide, Try.underlying22, Cell.okWide, Cell.ok] at hval
        exact hval.2.2
      obtain ⟨_, _, row, cells, hsh, _⟩ := hhas
      unfold World.shape? at hsh
      split at hsh
      · rename_i c el fz e; exact ⟨_, c, el, fz, e⟩
      · cases hsh
  obtain ⟨hc, hn⟩ := hcell
  rcases hn with rfl | hb
  · exact ⟨[], by simp, by simp, rfl, fun os => ⟨[], .nils, fun x hx => (by cases hx), .nils, .ls0 _ _ _ trivial⟩⟩
  · rw [hc] at hf
    have hk := reads_slice w Try.underlying22 (by rw [(by kernel_rfl : Try.prog.cellsOf 32 = 7)]; omega) (fun l hl => by obtain ⟨s, _, rfl⟩ := hl; exact (by kernel_rfl : 7 = Try.prog.cellsOf 32)) (r32 w) fuel _ _ hf hb
    obtain ⟨pvs, ⟨ls, h1, rfl, h2⟩, hclo, h⟩ := hk
    obtain ⟨ss, h3, h4, h5⟩ := rows_of h1
    refine ⟨ss, h3, by rw [h4]; exact h2, rfl, fun os => ?_⟩
    obtain ⟨nw, avs, k1, k2, k3, _⟩ := h os
    rw [← h4, h5] at k3
    cases k3 with
    | cons _ a _ _ hv hl =>
      cases hl
      cases k2 with
      | cons _ _ _ _ hv2 _ => exact ⟨nw, a, k1, hv2, hv⟩
end
end Go.Av
