/- The second machine without fuel. -/
import Derived.Test.YtgnpkjfaekimcaaDoorAvPE
set_option linter.unusedVariables false
set_option linter.unusedSimpArgs false
set_option linter.unusedSectionVars false
namespace Go.Av
open Classical

def LeC (c c' : PCall) : Prop := ∀ f as σ r, c f as σ = some r → c' f as σ = some r
def LeS (f f' : PSt → Option (Ex × PSt)) : Prop := ∀ s r, f s = some r → f' s = some r

noncomputable def piterL (f : PSt → Option (Ex × PSt)) (s : PSt) : Option (Ex × PSt) :=
  if h : ∃ n r, piter f n s = some r then some (Classical.choose (Classical.choose_spec h)) else none
theorem piter_mono {f f' : PSt → Option (Ex × PSt)} (hf : LeS f f') : ∀ {n m : Nat} {s : PSt} {r : Ex × PSt}, n ≤ m → piter f n s = some r → piter f' m s = some r
  | 0, m, s, r, _, e => by cases e
  | n + 1, 0, s, r, h, e => by omega
  | n + 1, m + 1, s, r, h, e => by
    simp only [piter] at e ⊢
    split at e
    · rename_i s1 h1
      rw [hf _ _ h1]
      exact piter_mono hf (by omega) e
    · rename_i hne
      rw [hf _ _ e]
      obtain ⟨ex, s'⟩ := r
      cases ex with
      | norm => exact absurd e (hne s')
      | ret => rfl
      | exit i => rfl
theorem LeS.refl (f : PSt → Option (Ex × PSt)) : LeS f f := fun _ _ h => h
theorem piterL_of {f : PSt → Option (Ex × PSt)} {n : Nat} {s : PSt} {r : Ex × PSt} (e : piter f n s = some r) : piterL f s = some r := by
  have h : ∃ n r, piter f n s = some r := ⟨n, r, e⟩
  unfold piterL
  rw [dif_pos h]
  have h2 := Classical.choose_spec (Classical.choose_spec h)
  have h3 := piter_mono (LeS.refl f) (Nat.le_max_left n (Classical.choose h)) e
  have h4 := piter_mono (LeS.refl f) (Nat.le_max_right n (Classical.choose h)) h2
  rw [h3] at h4
  exact h4.symm
theorem piterL_inv {f : PSt → Option (Ex × PSt)} {s : PSt} {r : Ex × PSt} (e : piterL f s = some r) : ∃ n, piter f n s = some r := by
  unfold piterL at e
  split at e
  · rename_i h
    injection e with e
    exact ⟨_, by rw [← e]; exact Classical.choose_spec (Classical.choose_spec h)⟩
  · cases e
/-- One round. -/
theorem piterL_eq (f : PSt → Option (Ex × PSt)) (s : PSt) : piterL f s = match f s with
    | some (.norm, s') => piterL f s'
    | r => r := by
  cases h : piterL f s with
  | some r =>
    obtain ⟨n, hn⟩ := piterL_inv h
    cases n with
    | zero => cases hn
    | succ n =>
      simp only [piter] at hn
      split at hn
      · rename_i h1
        simp only [h1]
        exact (piterL_of hn).symm
      · rename_i hne
        obtain ⟨ex, s'⟩ := r
        rw [hn]
        cases ex with
        | norm => exact absurd hn (hne s')
        | ret => rfl
        | exit i => rfl
  | none =>
    cases hf : f s with
    | none => rfl
    | some q =>
      obtain ⟨ex, s'⟩ := q
      cases ex with
      | norm =>
        cases h2 : piterL f s' with
        | none => simp only [h2]
        | some r =>
          obtain ⟨n, hn⟩ := piterL_inv h2
          have : piter f (n + 1) s = some r := by simp only [piter, hf]; exact hn
          rw [piterL_of this] at h; cases h
      | ret =>
        have : piter f 1 s = some (.ret, s') := by simp only [piter, hf]
        rw [piterL_of this] at h; cases h
      | exit i =>
        have : piter f 1 s = some (.exit i, s') := by simp only [piter, hf]
        rw [piterL_of this] at h; cases h
/-- n rounds. -/
theorem piterL_rounds {f : PSt → Option (Ex × PSt)} (σ : Nat → PSt) : ∀ n, (∀ i, i < n → f (σ i) = some (.norm, σ (i + 1))) → piterL f (σ 0) = piterL f (σ n)
  | 0, _ => rfl
  | n + 1, h => by
    rw [piterL_rounds σ n (fun i hi => h i (by omega)), piterL_eq, h n (by omega)]

noncomputable def pdenL (call : PCall) : PCode → PSt → Option (Ex × PSt)
  | .skip, s => some (.norm, s)
  | .ret, s => some (.ret, s)
  | .exit id, s => some (.exit id, s)
  | .reg ops, s => match prunOps call false ops [] s.vs s.h with
    | some s' => some (.norm, s')
    | none => none
  | .seq a b, s => match pdenL call a s with
    | some (.norm, s') => pdenL call b s'
    | r => r
  | .cond c a b, s => match c.pev [] s.vs with
    | .b true => pdenL call a s
    | .b false => pdenL call b s
    | _ => none
  | .blk id c, s => match pdenL call c s with
    | some (.exit j, s') => match Nat.beq j id with
      | true => some (.norm, s')
      | false => some (.exit j, s')
    | r => r
  | .loop c, s => piterL (pdenL call c) s
  | .bad, _ => none
  | .thaw j c, s => match pthaw j s with
    | some s' => pdenL call c s'
    | none => none
noncomputable def pcallWithL (call : PCall) (F : PFunc) (as : List PV) (σ : PH) : Option (PV × PH) :=
  match pdenL call F.body ⟨pinits as F.ini, σ⟩ with
  | some (.exit _, _) => none
  | some (_, s) => match presAll s F.res with
    | some l => some (presult l, s.h)
    | none => none
  | none => none
noncomputable def PC (pf : Nat → Option PFunc) : PCall := fun f as σ =>
  if h : ∃ n r, prun pf n n f as σ = some r then some (Classical.choose (Classical.choose_spec h)) else none

/-! ## More fuel, the same answer -/
theorem iso_mono {c c' : PCall} (h : LeC c c') {f : Nat} {as : List PV} {v : PV} (e : iso c f as = some v) : iso c' f as = some v := by
  unfold iso at e ⊢
  split at e
  · rename_i h1; rw [h _ _ _ _ h1]; exact e
  · cases e
theorem pcall_mono {c c' : PCall} (h : LeC c c') {md : Mode} {f : Nat} {as : List PV} {σ : PH} {r : PV × PH} (e : pcall c md f as σ = some r) : pcall c' md f as σ = some r := by
  unfold pcall at e ⊢
  split at e
  · exact h _ _ _ _ e
  · rename_i hmd
    cases hm : mapO (lend σ) as with
    | none => rw [hm] at e; cases e
    | some as' =>
      rw [hm] at e
      simp only at e ⊢
      split at e
      · rename_i h1; rw [iso_mono h h1]; exact e
      · cases e
theorem pstepOp_mono {c c' : PCall} (h : LeC c c') {md : Mode} {o : AOp} {rs vs : List PV} {σ : PH} {r : PV × PH} (e : pstepOp c md o rs vs σ = some r) : pstepOp c' md o rs vs σ = some r := by
  cases o with
  | call f as =>
    unfold pstepOp at e ⊢
    simp only at e ⊢
    split at e
    · rename_i v σ1 h1
      split at h1
      · rename_i fn fi ca hf
        rw [pcall_mono h h1]; exact e
      · cases h1
    · cases e
  | _ => exact e
theorem pstepBar_mono {c c' : PCall} (h : LeC c c') {top : Bool} {o : PRO} {rs vs : List PV} {σ : PH} {r : PV × PH} (e : pstepBar c top o rs vs σ = some r) : pstepBar c' top o rs vs σ = some r := by
  unfold pstepBar at e ⊢
  split at e
  · rename_i h1; exact pstepOp_mono h e
  · cases e
theorem prunOps_mono {c c' : PCall} (h : LeC c c') : ∀ {os : List PRO} {top : Bool} {rs vs : List PV} {σ : PH} {s : PSt}, prunOps c top os rs vs σ = some s → prunOps c' top os rs vs σ = some s
  | [], _, _, _, _, _, e => e
  | o :: os, top, rs, vs, σ, s, e => by
    simp only [prunOps] at e ⊢
    split at e
    · rename_i hw
      split at e
      · rename_i v σ1 h1
        rw [pstepBar_mono h h1]
        exact prunOps_mono h e
      · cases e
    · exact prunOps_mono h e
    · cases e
theorem pden_mono {c c' : PCall} (h : LeC c c') {n m : Nat} (hnm : n ≤ m) : ∀ k : PCode, LeS (pden c n k) (pden c' m k)
  | .skip, s, r, e => e
  | .ret, s, r, e => e
  | .exit id, s, r, e => e
  | .reg ops, s, r, e => by
    simp only [pden] at e ⊢
    split at e
    · rename_i h1; rw [prunOps_mono h h1]; exact e
    · cases e
  | .seq a b, s, r, e => by
    simp only [pden] at e ⊢
    split at e
    · rename_i h1
      rw [pden_mono h hnm a _ _ h1]
      exact pden_mono h hnm b _ _ e
    · rename_i hne
      rw [pden_mono h hnm a _ _ e]
      obtain ⟨ex, s'⟩ := r
      cases ex with
      | norm => exact absurd e (hne s')
      | ret => rfl
      | exit i => rfl
  | .cond x a b, s, r, e => by
    simp only [pden] at e ⊢
    split at e
    · exact pden_mono h hnm a _ _ e
    · exact pden_mono h hnm b _ _ e
    · cases e
  | .blk id k, s, r, e => by
    simp only [pden] at e ⊢
    split at e
    · rename_i h1
      rw [pden_mono h hnm k _ _ h1]; exact e
    · rename_i hne
      rw [pden_mono h hnm k _ _ e]
      obtain ⟨ex, s'⟩ := r
      cases ex with
      | exit i => exact absurd e (hne i s')
      | ret => rfl
      | norm => rfl
  | .loop k, s, r, e => piter_mono (pden_mono h hnm k) hnm e
  | .bad, s, r, e => by cases e
  | .thaw j k, s, r, e => by
    simp only [pden] at e ⊢
    split at e
    · exact pden_mono h hnm k _ _ e
    · cases e
theorem pdenL_of {c c' : PCall} (h : LeC c c') {n : Nat} : ∀ k : PCode, LeS (pden c n k) (pdenL c' k)
  | .skip, s, r, e => e
  | .ret, s, r, e => e
  | .exit id, s, r, e => e
  | .reg ops, s, r, e => by
    simp only [pden, pdenL] at e ⊢
    split at e
    · rename_i h1; rw [prunOps_mono h h1]; exact e
    · cases e
  | .seq a b, s, r, e => by
    simp only [pden, pdenL] at e ⊢
    split at e
    · rename_i h1
      rw [pdenL_of h a _ _ h1]
      exact pdenL_of h b _ _ e
    · rename_i hne
      rw [pdenL_of h a _ _ e]
      obtain ⟨ex, s'⟩ := r
      cases ex with
      | norm => exact absurd e (hne s')
      | ret => rfl
      | exit i => rfl
  | .cond x a b, s, r, e => by
    simp only [pden, pdenL] at e ⊢
    split at e
    · rename_i h1; simp only [h1]; exact pdenL_of h a _ _ e
    · rename_i h1; simp only [h1]; exact pdenL_of h b _ _ e
    · cases e
  | .blk id k, s, r, e => by
    simp only [pden, pdenL] at e ⊢
    split at e
    · rename_i h1
      rw [pdenL_of h k _ _ h1]; exact e
    · rename_i hne
      rw [pdenL_of h k _ _ e]
      obtain ⟨ex, s'⟩ := r
      cases ex with
      | exit i => exact absurd e (hne i s')
      | ret => rfl
      | norm => rfl
  | .loop k, s, r, e => piterL_of (piter_mono (pdenL_of h k) (Nat.le_refl _) e)
  | .bad, s, r, e => by cases e
  | .thaw j k, s, r, e => by
    simp only [pden, pdenL] at e ⊢
    split at e
    · rename_i h1; simp only [h1]; exact pdenL_of h k _ _ e
    · cases e
theorem pcallWith_mono {c c' : PCall} (h : LeC c c') {n m : Nat} (hnm : n ≤ m) {F : PFunc} {as : List PV} {σ : PH} {r : PV × PH} (e : pcallWith c n F as σ = some r) : pcallWith c' m F as σ = some r := by
  unfold pcallWith at e ⊢
  split at e
  · cases e
  · rename_i ex s hne h1
    rw [pden_mono h hnm _ _ _ h1]
    cases ex with
    | exit i => exact absurd rfl (hne i)
    | norm => exact e
    | ret => exact e
  · cases e
theorem prun_mono {pf : Nat → Option PFunc} {n m : Nat} (hnm : n ≤ m) : ∀ {d d' : Nat}, d ≤ d' → LeC (prun pf n d) (prun pf m d')
  | 0, d', _, f, as, σ, r, e => by cases e
  | d + 1, 0, h, f, as, σ, r, e => by omega
  | d + 1, d' + 1, h, f, as, σ, r, e => by
    simp only [prun] at e ⊢
    split at e
    · exact pcallWith_mono (prun_mono hnm (by omega)) hnm e
    · cases e
theorem PC_of {pf : Nat → Option PFunc} {n : Nat} : LeC (prun pf n n) (PC pf) := by
  intro f as σ r e
  have h : ∃ n r, prun pf n n f as σ = some r := ⟨n, r, e⟩
  unfold PC
  rw [dif_pos h]
  have h2 := Classical.choose_spec (Classical.choose_spec h)
  have h3 := prun_mono (Nat.le_max_left n (Classical.choose h)) (Nat.le_max_left n (Classical.choose h)) _ _ _ _ e
  have h4 := prun_mono (Nat.le_max_right n (Classical.choose h)) (Nat.le_max_right n (Classical.choose h)) _ _ _ _ h2
  rw [h3] at h4
  exact h4.symm
theorem PC_inv {pf : Nat → Option PFunc} {f : Nat} {as : List PV} {σ : PH} {r : PV × PH} (e : PC pf f as σ = some r) : ∃ n, prun pf n n f as σ = some r := by
  unfold PC at e
  split at e
  · rename_i h
    injection e with e
    exact ⟨_, by rw [← e]; exact Classical.choose_spec (Classical.choose_spec h)⟩
  · cases e

/-! ## What needs no bound needs some fuel -/
section
variable {pf : Nat → Option PFunc}
abbrev R (pf : Nat → Option PFunc) (n : Nat) : PCall := prun pf n n
theorem R_mono {n m : Nat} (h : n ≤ m) : LeC (R pf n) (R pf m) := prun_mono h h
theorem iso_fin {f : Nat} {as : List PV} {v : PV} (e : iso (PC pf) f as = some v) : ∃ n, iso (R pf n) f as = some v := by
  unfold iso at e
  split at e
  · rename_i h1
    obtain ⟨n, hn⟩ := PC_inv h1
    exact ⟨n, by unfold iso; rw [show R pf n f as .empty = _ from hn]; exact e⟩
  · cases e
theorem pcall_fin {md : Mode} {f : Nat} {as : List PV} {σ : PH} {r : PV × PH} (e : pcall (PC pf) md f as σ = some r) : ∃ n, pcall (R pf n) md f as σ = some r := by
  unfold pcall at e
  split at e
  · obtain ⟨n, hn⟩ := PC_inv e
    exact ⟨n, by unfold pcall; exact hn⟩
  · rename_i hmd
    cases hm : mapO (lend σ) as with
    | none => rw [hm] at e; cases e
    | some as' =>
      rw [hm] at e
      simp only at e
      split at e
      · rename_i h1
        obtain ⟨n, hn⟩ := iso_fin h1
        refine ⟨n, ?_⟩
        unfold pcall
        rw [hm]
        cases md with
        | sh => exact absurd rfl hmd
        | _ => simp only [hn]; exact e
      · cases e
theorem pstepOp_fin {md : Mode} {o : AOp} {rs vs : List PV} {σ : PH} {r : PV × PH} (e : pstepOp (PC pf) md o rs vs σ = some r) : ∃ n, pstepOp (R pf n) md o rs vs σ = some r := by
  cases o with
  | call f as =>
    unfold pstepOp at e
    simp only at e
    split at e
    · rename_i v σ1 h1
      split at h1
      · rename_i fn fi ca hf
        obtain ⟨n, hn⟩ := pcall_fin h1
        refine ⟨n, ?_⟩
        unfold pstepOp
        simp only [hf, hn]; exact e
      · cases h1
    · cases e
  | _ => exact ⟨0, e⟩
theorem prunOps_fin : ∀ {os : List PRO} {top : Bool} {rs vs : List PV} {σ : PH} {s : PSt}, prunOps (PC pf) top os rs vs σ = some s → ∃ n, prunOps (R pf n) top os rs vs σ = some s
  | [], _, _, _, _, _, e => ⟨0, e⟩
  | o :: os, top, rs, vs, σ, s, e => by
    simp only [prunOps] at e
    split at e
    · rename_i hw
      split at e
      · rename_i v σ1 h1
        have h2 : ∃ n, pstepBar (R pf n) top o rs vs σ = some (v, σ1) := by
          unfold pstepBar at h1
          split at h1
          · rename_i h3
            obtain ⟨n, hn⟩ := pstepOp_fin h1
            exact ⟨n, by unfold pstepBar; rw [h3]; exact hn⟩
          · cases h1
        obtain ⟨n, hn⟩ := h2
        obtain ⟨m, hm⟩ := prunOps_fin e
        refine ⟨max n m, ?_⟩
        simp only [prunOps, hw, pstepBar_mono (R_mono (Nat.le_max_left n m)) hn]
        exact prunOps_mono (R_mono (Nat.le_max_right n m)) hm
      · cases e
    · rename_i hw
      obtain ⟨m, hm⟩ := prunOps_fin e
      exact ⟨m, by simp only [prunOps, hw]; exact hm⟩
    · cases e
theorem pden_fin : ∀ (k : PCode) {s : PSt} {r : Ex × PSt}, pdenL (PC pf) k s = some r → ∃ n, pden (R pf n) n k s = some r
  | .skip, s, r, e => ⟨0, e⟩
  | .ret, s, r, e => ⟨0, e⟩
  | .exit id, s, r, e => ⟨0, e⟩
  | .reg ops, s, r, e => by
    simp only [pdenL] at e
    split at e
    · rename_i h1
      obtain ⟨n, hn⟩ := prunOps_fin h1
      exact ⟨n, by simp only [pden, hn]; exact e⟩
    · cases e
  | .seq a b, s, r, e => by
    simp only [pdenL] at e
    split at e
    · rename_i h1
      obtain ⟨n, hn⟩ := pden_fin a h1
      obtain ⟨m, hm⟩ := pden_fin b e
      refine ⟨max n m, ?_⟩
      simp only [pden, pden_mono (R_mono (Nat.le_max_left n m)) (Nat.le_max_left n m) a _ _ hn]
      exact pden_mono (R_mono (Nat.le_max_right n m)) (Nat.le_max_right n m) b _ _ hm
    · rename_i hne
      obtain ⟨n, hn⟩ := pden_fin a e
      refine ⟨n, ?_⟩
      simp only [pden, hn]
      obtain ⟨ex, s'⟩ := r
      cases ex with
      | norm => exact absurd e (hne s')
      | ret => rfl
      | exit i => rfl
  | .cond x a b, s, r, e => by
    simp only [pdenL] at e
    split at e
    · rename_i h1
      obtain ⟨n, hn⟩ := pden_fin a e
      exact ⟨n, by simp only [pden, h1]; exact hn⟩
    · rename_i h1
      obtain ⟨n, hn⟩ := pden_fin b e
      exact ⟨n, by simp only [pden, h1]; exact hn⟩
    · cases e
  | .blk id k, s, r, e => by
    simp only [pdenL] at e
    split at e
    · rename_i h1
      obtain ⟨n, hn⟩ := pden_fin k h1
      exact ⟨n, by simp only [pden, hn]; exact e⟩
    · rename_i hne
      obtain ⟨n, hn⟩ := pden_fin k e
      refine ⟨n, ?_⟩
      simp only [pden, hn]
      obtain ⟨ex, s'⟩ := r
      cases ex with
      | exit i => exact absurd e (hne i s')
      | ret => rfl
      | norm => rfl
  | .loop k, s, r, e => by
    obtain ⟨n, hn⟩ := piterL_inv e
    have : ∀ (n : Nat) (s : PSt), piter (pdenL (PC pf) k) n s = some r → ∃ m, piter (pden (R pf m) m k) m s = some r := by
      intro n
      induction n with
      | zero => intro s h; cases h
      | succ n ih =>
        intro s h
        simp only [piter] at h
        split at h
        · rename_i s1 h1
          obtain ⟨a, ha⟩ := pden_fin k h1
          obtain ⟨b, hb⟩ := ih s1 h
          refine ⟨max a b + 1, ?_⟩
          simp only [piter, pden_mono (R_mono (show a ≤ max a b + 1 by omega)) (show a ≤ max a b + 1 by omega) k _ _ ha]
          exact piter_mono (pden_mono (R_mono (show b ≤ max a b + 1 by omega)) (show b ≤ max a b + 1 by omega) k) (by omega) hb
        · rename_i hne
          obtain ⟨a, ha⟩ := pden_fin k h
          refine ⟨a + 1, ?_⟩
          simp only [piter, pden_mono (R_mono (Nat.le_succ a)) (Nat.le_succ a) k _ _ ha]
          obtain ⟨ex, s'⟩ := r
          cases ex with
          | norm => exact absurd h (hne s')
          | ret => rfl
          | exit i => rfl
    obtain ⟨m, hm⟩ := this n s hn
    exact ⟨m, hm⟩
  | .bad, s, r, e => by cases e
  | .thaw j k, s, r, e => by
    simp only [pdenL] at e
    split at e
    · rename_i h1
      obtain ⟨n, hn⟩ := pden_fin k e
      exact ⟨n, by simp only [pden, h1]; exact hn⟩
    · cases e
/-- A call is what its function's code says. -/
theorem PC_eq {f : Nat} {F : PFunc} (hf : pf f = some F) (as : List PV) (σ : PH) : PC pf f as σ = pcallWithL (PC pf) F as σ := by
  have one : ∀ r, PC pf f as σ = some r → pcallWithL (PC pf) F as σ = some r := by
    intro r e
    obtain ⟨n, hn⟩ := PC_inv e
    cases n with
    | zero => cases hn
    | succ n =>
      simp only [prun, hf] at hn
      unfold pcallWith at hn
      unfold pcallWithL
      have hle : LeC (prun pf (n + 1) n) (PC pf) := fun f as σ r h => PC_of (n := n + 1) _ _ _ _ (prun_mono (Nat.le_refl _) (Nat.le_succ n) _ _ _ _ h)
      split at hn
      · cases hn
      · rename_i ex s hne h1
        rw [pdenL_of hle _ _ _ h1]
        cases ex with
        | exit i => exact absurd rfl (hne i)
        | norm => exact hn
        | ret => exact hn
      · cases hn
  have two : ∀ r, pcallWithL (PC pf) F as σ = some r → PC pf f as σ = some r := by
    intro r e
    unfold pcallWithL at e
    split at e
    · cases e
    · rename_i ex s hne h1
      obtain ⟨n, hn⟩ := pden_fin _ h1
      refine PC_of (n := n + 1) _ _ _ _ ?_
      simp only [prun, hf]
      unfold pcallWith
      rw [pden_mono (prun_mono (Nat.le_succ n) (Nat.le_refl n)) (Nat.le_succ n) _ _ _ hn]
      cases ex with
      | exit i => exact absurd rfl (hne i)
      | norm => exact e
      | ret => exact e
    · cases e
  cases h : PC pf f as σ with
  | some r => exact (one r h).symm
  | none =>
    cases h2 : pcallWithL (PC pf) F as σ with
    | none => rfl
    | some r => rw [two r h2] at h; cases h
end
end Go.Av
