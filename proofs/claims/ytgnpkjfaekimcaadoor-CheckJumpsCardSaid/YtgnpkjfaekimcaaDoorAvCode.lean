/- Code, functions, calls. -/
import Derived.Test.YtgnpkjfaekimcaaDoorAvSeq
set_option linter.unusedVariables false
set_option linter.unusedSimpArgs false
set_option linter.unusedSectionVars false
namespace Go.Av
section
variable {P : Program}

/-- A loop, by a number that falls. -/
theorem wp_loop_n {c : Code} {Q : Exit → Act → World → Prop} (J : Nat → Act → World → Prop)
    (round : ∀ n a w, J n a w → c.wp P (Exit.then (fun a' w' => ∃ n', n' < n ∧ J n' a' w') Q) a w) {n : Nat} {a : Act} {w : World} (h : J n a w) : (Code.loop c).wp P Q a w := by
  intro b k cs
  have key : ∀ n a w, J n a w →
      ∃ e a' w', Q e a' w' ∧ Arrives P (lone (b.at a (.code c :: .inLoop c :: k)) cs w) b k cs e a' w' := by
    intro n
    induction n using Nat.strongRecOn with
    | _ n ih =>
      intro a w hJ
      obtain ⟨e, a₁, w₁, hq, harr⟩ := round n a w hJ b (.inLoop c :: k) cs
      cases e with
      | normal =>
        obtain ⟨n', hlt, hJ'⟩ := hq
        obtain ⟨e₂, a₂, w₂, hq₂, harr₂⟩ := ih n' hlt a₁ w₁ hJ'
        exact ⟨e₂, a₂, w₂, hq₂, .of_steps (Steps.trans harr (.one step_inLoop)) harr₂⟩
      | exit id => exact ⟨_, a₁, w₁, hq, .pass (x := .inLoop c) rfl (fun _ _ => .inl (by simp)) harr⟩
      | goto l => exact ⟨_, a₁, w₁, hq, .pass (x := .inLoop c) rfl (fun _ _ => .inl (by simp)) harr⟩
      | ret => exact ⟨_, a₁, w₁, hq, .pass (x := .inLoop c) rfl (fun _ _ => .inl (by simp)) harr⟩
      | panic ch => exact ⟨_, a₁, w₁, hq, .pass (x := .inLoop c) rfl (fun _ _ => .inl (by simp)) harr⟩
      | outgrown => exact ⟨_, a₁, w₁, hq, .pass (x := .inLoop c) rfl (fun _ _ => .inl (by simp)) harr⟩
  obtain ⟨e, a', w', hq, harr⟩ := key n a w h
  exact ⟨e, a', w', hq, .of_steps (.one step_loop) harr⟩

variable {m m' : Mp} {h h' : AHeap} {w w' : World} {v : AV} {cv : Value} {rs vs : List AV} {vt : List Nat} {nt : Nat} {a : Act}
variable {call : Nat → List AV → AHeap → Option (AV × AHeap)} {lf : Nat}

def Ex.out : Ex → Exit
  | .norm => .normal
  | .exit id => .exit id
  | .ret => .ret

/-- Where a run stands. -/
structure At (P : Program) (vt : List Nat) (nt : Nat) (s : St) (m : Mp) (a : Act) (w : World) : Prop where
  fr : FR m vt nt s.vs a
  hr : HR P m s.h w
def Runs (P : Program) (vt : List Nat) (nt : Nat) (c : Code) (s : St) (ex : Ex) (s' : St) : Prop :=
  ∀ m a w (Q : Exit → Act → World → Prop), At P vt nt s m a w → (∀ m' a' w', At P vt nt s' m' a' w' → Ext m s.h w m' s'.h w' → Q ex.out a' w') → c.wp P Q a w

def DrawOk (P : Program) (call : Nat → List AV → AHeap → Option (AV × AHeap)) : Prop :=
  ∀ (vt : List Nat) (nt id : Nat) (ops : Array Oper) (as : List ARO) (s s' : St), nodupN vt = true → cRegion P vt nt ops.toList true = .reg as → runOps call as [] s.vs s.h = some s' →
    Runs P vt nt (.region id ops true) s .norm s'

theorem cRegion_cases (P : Program) (vt : List Nat) (nt : Nat) (l : List Oper) (d : Bool) : cRegion P vt nt l d = .bad ∨ ∃ as, cRegion P vt nt l d = .reg as := by
  unfold cRegion
  split
  · split
    · exact .inr ⟨_, rfl⟩
    · simp only
      split
      · exact .inr ⟨_, rfl⟩
      · exact .inl rfl
  · exact .inl rfl

theorem region_run (hcall : CallOk P call) (hdraw : DrawOk P call) (hn : nodupN vt = true) {id : Nat} {ops : Array Oper} {draw : Bool} {as : List ARO} {s s' : St}
    (hc : cRegion P vt nt ops.toList draw = .reg as) (he : runOps call as [] s.vs s.h = some s') : Runs P vt nt (.region id ops draw) s .norm s' := by
  cases draw with
  | true => exact hdraw vt nt id ops as s s' hn hc he
  | false =>
    unfold cRegion at hc
    split at hc
    · rename_i h1 h2
      simp only [ACode.reg.injEq] at hc
      subst hc
      intro m a w Q hat hQ
      refine wp_region ?_
      have := seq_run hcall (ops := ops) hn h1 h2 (s' := s') (Q := Q) ops.toList [] rfl m [] s.vs s.h a w he hat.fr (by intro d t hd; simp at hd) hat.hr
        (fun m' a' w' f x e => hQ m' a' w' ⟨f, x⟩ e)
      simpa [List.range_eq_range'] using this
    · cases hc

theorem cond_frame (hat : At P vt nt ⟨vs, h⟩ m a w) {c : Operand} {x : AO} {b : Bool} (hc : cOperand P vt [] c = some x) (hb : x.ev [] vs = .b b) : a.eval c = .bool b := by
  have := operand_frame hat.hr.glob hat.fr.var (rs := []) (ds := []) (by intro d t hd; simp at hd) hc
  rw [hb] at this
  generalize a.eval c = y at this
  cases this
  rfl

theorem iter_split {f : St → Option (Ex × St)} : ∀ {n : Nat} {s s' : St} {ex : Ex}, iter f n s = some (ex, s') → ex ≠ .norm ∧
    ∃ k, n = k + 1 ∧ ((∃ s1, f s = some (.norm, s1) ∧ iter f k s1 = some (ex, s')) ∨ f s = some (ex, s'))
  | 0, _, _, _, h => by simp [iter] at h
  | n + 1, s, s', ex, h => by
    simp only [iter] at h
    split at h
    · rename_i s1 h1
      have := (iter_split h).1
      exact ⟨this, n, rfl, .inl ⟨s1, h1, h⟩⟩
    · rename_i hne
      refine ⟨?_, n, rfl, .inr h⟩
      rintro rfl
      exact hne s' h

theorem den_run (hcall : CallOk P call) (hdraw : DrawOk P call) (hn : nodupN vt = true) (c : Code) : ∀ {s s' : St} {ex : Ex}, den call lf (cCode P vt nt c) s = some (ex, s') → Runs P vt nt c s ex s' := by
  induction c with
  | skip =>
    intro s s' ex he m a w Q hat hQ
    simp only [cCode, den, Option.some.injEq, Prod.mk.injEq] at he
    obtain ⟨rfl, rfl⟩ := he
    exact wp_skip (hQ m a w hat (Ext.refl _ _ _))
  | label l =>
    intro s s' ex he m a w Q hat hQ
    simp only [cCode, den, Option.some.injEq, Prod.mk.injEq] at he
    obtain ⟨rfl, rfl⟩ := he
    exact wp_label (hQ m a w hat (Ext.refl _ _ _))
  | ret =>
    intro s s' ex he m a w Q hat hQ
    simp only [cCode, den, Option.some.injEq, Prod.mk.injEq] at he
    obtain ⟨rfl, rfl⟩ := he
    exact wp_ret (hQ m a w hat (Ext.refl _ _ _))
  | exit id =>
    intro s s' ex he m a w Q hat hQ
    simp only [cCode, den, Option.some.injEq, Prod.mk.injEq] at he
    obtain ⟨rfl, rfl⟩ := he
    exact wp_exit (hQ m a w hat (Ext.refl _ _ _))
  | region id ops draw =>
    intro s s' ex he m a w Q hat hQ
    simp only [cCode] at he
    rcases cRegion_cases P vt nt ops.toList draw with hc | ⟨as, hc⟩
    · rw [hc] at he; simp [den] at he
    · rw [hc] at he
      simp only [den] at he
      split at he
      · rename_i s1 h1
        simp only [Option.some.injEq, Prod.mk.injEq] at he
        obtain ⟨rfl, rfl⟩ := he
        exact region_run hcall hdraw hn hc h1 m a w Q hat hQ
      · cases he
  | seq x y ihx ihy =>
    intro s s' ex he m a w Q hat hQ
    simp only [cCode, den] at he
    split at he
    · rename_i s1 h1
      refine wp_seq (ihx h1 m a w _ hat fun m1 a1 w1 hat1 hx1 => ?_)
      exact ihy he m1 a1 w1 Q hat1 fun m2 a2 w2 hat2 hx2 => hQ m2 a2 w2 hat2 (hx1.trans hx2)
    · rename_i hne
      refine wp_seq (ihx he m a w _ hat fun m1 a1 w1 hat1 hx1 => ?_)
      cases ex with
      | norm => exact absurd he (hne s')
      | exit id => exact hQ m1 a1 w1 hat1 hx1
      | ret => exact hQ m1 a1 w1 hat1 hx1
  | cond c x y ihx ihy =>
    intro s s' ex he m a w Q hat hQ
    simp only [cCode] at he
    split at he
    · rename_i ao hc
      simp only [den] at he
      split at he
      · rename_i hb
        exact wp_cond_true (cond_frame (vs := s.vs) (h := s.h) hat hc hb) (ihx he m a w Q hat hQ)
      · rename_i hb
        exact wp_cond_false (cond_frame (vs := s.vs) (h := s.h) hat hc hb) (ihy he m a w Q hat hQ)
      · cases he
    · simp [den] at he
  | block id c ih =>
    intro s s' ex he m a w Q hat hQ
    simp only [cCode, den] at he
    split at he
    · rename_i j s1 h1
      refine wp_block (ih h1 m a w _ hat fun m1 a1 w1 hat1 hx1 => ?_)
      simp only [Ex.out, Exit.inBlock]
      split at he
      · rename_i hj
        simp only [Option.some.injEq, Prod.mk.injEq] at he
        obtain ⟨rfl, rfl⟩ := he
        rw [if_pos (beq_iff.1 hj)]
        exact hQ m1 a1 w1 hat1 hx1
      · rename_i hj
        simp only [Option.some.injEq, Prod.mk.injEq] at he
        obtain ⟨rfl, rfl⟩ := he
        have : ¬ j = id := fun e => by rw [beq_iff.2 e] at hj; cases hj
        rw [if_neg this]
        exact hQ m1 a1 w1 hat1 hx1
    · rename_i hne
      refine wp_block (ih he m a w _ hat fun m1 a1 w1 hat1 hx1 => ?_)
      cases ex with
      | exit j => exact absurd he (hne j s')
      | norm => exact hQ m1 a1 w1 hat1 hx1
      | ret => exact hQ m1 a1 w1 hat1 hx1
  | loop c ih =>
    intro s s' ex he m a w Q hat hQ
    simp only [cCode, den] at he
    refine wp_loop_n (fun n a1 w1 => ∃ s1 m1, iter (den call lf (cCode P vt nt c)) n s1 = some (ex, s') ∧ At P vt nt s1 m1 a1 w1 ∧ Ext m s.h w m1 s1.h w1) ?_ ⟨s, m, he, hat, Ext.refl _ _ _⟩
    intro n a1 w1 ⟨s1, m1, he1, hat1, hx1⟩
    obtain ⟨hnn, k, rfl, ⟨s2, h2, hit⟩ | h2⟩ := iter_split he1
    · exact ih h2 m1 a1 w1 _ hat1 fun m2 a2 w2 hat2 hx2 => ⟨k, by omega, s2, m2, hit, hat2, hx1.trans hx2⟩
    · refine ih h2 m1 a1 w1 _ hat1 fun m2 a2 w2 hat2 hx2 => ?_
      cases ex with
      | norm => exact absurd rfl hnn
      | exit j => exact hQ m2 a2 w2 hat2 (hx1.trans hx2)
      | ret => exact hQ m2 a2 w2 hat2 (hx1.trans hx2)
  | _ => intro s s' ex he; simp [cCode, den] at he
end
end Go.Av
