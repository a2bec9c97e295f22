/- What operations leave of the abstract heap; which of them look at it. Plain lemmas about the abstract machine. -/
import Derived.Test.YtgnpkjfaekimcaaDoorAvFun
set_option linter.unusedVariables false
set_option linter.unusedSimpArgs false
set_option linter.unusedSectionVars false
namespace Go.Av

/-- The same contents. -/
inductive Wk : AObj → AObj → Prop
  | cells (c : List AV) (st st' : ASt) (prev prev' : List Nat) (ez ez' : Nat) : Wk (.cells c st prev ez) (.cells c st' prev' ez')
  | map (es : List (AV × AV × Nat)) (cl : Nat) : Wk (.map es cl) (.map es cl)
  | dead : Wk .dead .dead
theorem Wk.refl : ∀ o : AObj, Wk o o
  | .cells _ _ _ _ => .cells _ _ _ _ _ _ _
  | .map _ _ => .map _ _
  | .dead => .dead
theorem Wk.symm {o o' : AObj} (h : Wk o o') : Wk o' o := by cases h <;> constructor
theorem Wk.trans {a b c : AObj} (h : Wk a b) (k : Wk b c) : Wk a c := by cases h <;> cases k <;> constructor
inductive WkO : Option AObj → Option AObj → Prop
  | none : WkO none none
  | some {o o' : AObj} (h : Wk o o') : WkO (some o) (some o')
theorem WkO.refl : ∀ o, WkO o o
  | .none => .none
  | .some o => .some (Wk.refl o)
theorem WkO.of_eq {a b : Option AObj} (h : a = b) : WkO a b := h ▸ WkO.refl a
theorem WkO.symm {a b : Option AObj} (h : WkO a b) : WkO b a := by
  cases h with
  | none => exact .none
  | some h => exact .some h.symm
theorem WkO.trans {a b c : Option AObj} (h : WkO a b) (k : WkO b c) : WkO a c := by
  cases h with
  | none => exact k
  | some h => cases k with | some k => exact .some (h.trans k)

/-- What stays. -/
structure Keep (h h' : AHeap) : Prop where
  lim : h'.lim = h.lim
  n : h.n ≤ h'.n
  wk : h.lim ≤ h.n → ∀ b, b < h.lim → WkO (h.get b) (h'.get b)
theorem Keep.refl (h : AHeap) : Keep h h := ⟨rfl, Nat.le_refl _, fun _ _ _ => .refl _⟩
theorem Keep.trans {a b c : AHeap} (x : Keep a b) (y : Keep b c) : Keep a c :=
  ⟨y.lim.trans x.lim, Nat.le_trans x.n y.n, fun hl i hi => (x.wk hl i hi).trans (y.wk (by rw [x.lim]; exact Nat.le_trans hl x.n) i (by rw [x.lim]; exact hi))⟩
section
variable {h h' : AHeap} {v : AV} {rs vs : List AV} {op : AOp}

theorem keep_push (h : AHeap) (o : AObj) : Keep h (h.push o) :=
  ⟨rfl, by simp, fun hl b hb => by rw [AHeap.get_push, if_neg (by omega)]; exact .refl _⟩
theorem keep_put {b : Nat} {o : AObj} (hb : h.lim ≤ b) : Keep h (h.put b o) :=
  ⟨rfl, Nat.le_refl _, fun hl c hc => by rw [AHeap.get_put, if_neg (by omega)]; exact .refl _⟩
theorem keep_write {b o : Nat} {l : List AV} (e : writeAt h b o l = some h') : Keep h h' := by
  unfold writeAt at e
  split at e
  · rename_i c prev ez hg
    split at e
    · rename_i c' hlim hok hsp
      split at e
      · rename_i h1 hk
        injection e with e; subst e
        obtain ⟨hn, hl, hq, hget⟩ := killAll_spec hk
        have hb := blt_false.1 hlim
        refine ⟨hl, by simp [hn], fun hle c hc => ?_⟩
        rw [AHeap.get_put, if_neg (by omega), hget]
        split
        · rename_i hm; have := hq _ hm; omega
        · exact .refl _
      · cases e
    · cases e
  · cases e
theorem keep_appendNew {ez bytes n : Nat} {s : AV} {new : List AV} (e : appendNew h ez bytes s n new = some (v, h')) : Keep h h' := by
  unfold appendNew at e
  split at e
  · cases e
  split at e
  · split at e
    · cases e
    · simp only [Option.some.injEq, Prod.mk.injEq] at e; obtain ⟨_, rfl⟩ := e; exact keep_push _ _
  · split at e
    · split at e
      · rename_i h1 hw; simp only [Option.some.injEq, Prod.mk.injEq] at e; obtain ⟨_, rfl⟩ := e; exact keep_write hw
      · cases e
    · split at e
      · simp only [Option.some.injEq, Prod.mk.injEq] at e; obtain ⟨_, rfl⟩ := e; exact keep_push _ _
      · cases e
  · split at e
    · rename_i cc prev ez' hg
      split at e
      · split at e
        · split at e
          · rename_i h1 hw; simp only [Option.some.injEq, Prod.mk.injEq] at e; obtain ⟨_, rfl⟩ := e; exact keep_write hw
          · cases e
        · split at e
          · simp only [Option.some.injEq, Prod.mk.injEq] at e; obtain ⟨_, rfl⟩ := e
            refine ⟨rfl, by simp, fun hle c hc => ?_⟩
            rw [AHeap.get_push, if_neg (by rw [AHeap.n_put]; omega), AHeap.get_put]
            split
            · rename_i hcb; subst hcb; rw [hg]; exact .some (.cells _ _ _ _ _ _ _)
            · exact .refl _
          · cases e
      · cases e
    · cases e
  · cases e

theorem aop_still (ha : actsA op = false) (e : aop op rs vs h = some (v, h')) : h' = h ∨ ∃ o, h' = h.push o := by
  have r1 : ∀ {x : Option AV}, ret1 h x = some (v, h') → h' = h ∨ ∃ o, h' = h.push o := fun e => .inl (ret1_some e).2
  cases op <;> simp only [aop] at e <;> simp only [actsA, reduceCtorEq] at ha <;> first
    | exact r1 e
    | (simp only [Option.some.injEq, Prod.mk.injEq] at e; obtain ⟨_, rfl⟩ := e; first | exact .inl rfl | exact .inr ⟨_, rfl⟩)
    | ((repeat' split at e) <;> first | exact r1 e | (simp only [Option.some.injEq, Prod.mk.injEq] at e; obtain ⟨_, rfl⟩ := e; first | exact .inl rfl | exact .inr ⟨_, rfl⟩) | (cases e; done))

theorem keep_aop (e : aop op rs vs h = some (v, h')) : Keep h h' := by
  cases ha : actsA op with
  | false =>
    rcases aop_still ha e with rfl | ⟨o, rfl⟩
    · exact .refl _
    · exact keep_push _ _
  | true =>
    have sk : ∀ {x : Option AHeap}, skip1 x = some (v, h') → x = some h' := by
      intro x e; cases x with
      | none => cases e
      | some y => simp only [skip1, Option.some.injEq, Prod.mk.injEq] at e; rw [e.2]
    cases op <;> simp only [actsA, reduceCtorEq] at ha <;> simp only [aop] at e
    case store n a x =>
      have e := sk e
      unfold storeAt at e
      split at e
      · split at e
        · exact keep_write e
        · cases e
      · cases e
    case bad => cases e
    case mupd kk m k x =>
      have e := sk e
      unfold aMupd at e
      split at e
      · split at e
        · rename_i hl
          split at e
          · injection e with e; subst e; exact keep_put (blt_false.1 hl)
          · injection e with e; subst e; exact keep_put (blt_false.1 hl)
          · cases e
        · cases e
      · cases e
    case ment kk z m k =>
      unfold aMent at e
      split at e
      · split at e
        · rename_i hl
          split at e
          · simp only [Option.some.injEq, Prod.mk.injEq] at e; obtain ⟨_, rfl⟩ := e; exact .refl _
          · simp only [Option.some.injEq, Prod.mk.injEq] at e; obtain ⟨_, rfl⟩ := e; exact keep_put (blt_false.1 hl)
          · cases e
        · cases e
      · cases e
    case estore m s x =>
      have e := sk e
      unfold aEstore at e
      split at e
      · split at e
        · rename_i hl
          split at e
          · injection e with e; subst e; exact keep_put (blt_false.1 hl)
          · cases e
        · cases e
      · cases e
    case del kk m k =>
      split at e
      · rename_i h1 hd
        simp only [Option.some.injEq, Prod.mk.injEq] at e; obtain ⟨_, rfl⟩ := e
        unfold aDel at hd
        split at hd
        · injection hd with hd; subst hd; exact .refl _
        · split at hd
          · rename_i hl
            split at hd
            · injection hd with hd; subst hd; exact keep_put (blt_false.1 hl)
            · injection hd with hd; subst hd; exact .refl _
            · cases hd
          · cases hd
        · cases hd
      · cases e
    case append ez bytes s x =>
      unfold aAppend at e
      split at e
      · cases e
      · split at e
        · simp only [Option.some.injEq, Prod.mk.injEq] at e; obtain ⟨_, rfl⟩ := e; exact .refl _
        · simp only [Option.some.injEq, Prod.mk.injEq] at e; obtain ⟨_, rfl⟩ := e; exact .refl _
        · cases e
      · split at e
        · cases e
        · exact keep_appendNew e
    case appendZ ez bytes z s x =>
      unfold aAppendZ at e
      split at e
      · split at e
        · split at e
          · simp only [Option.some.injEq, Prod.mk.injEq] at e; obtain ⟨_, rfl⟩ := e; exact .refl _
          · simp only [Option.some.injEq, Prod.mk.injEq] at e; obtain ⟨_, rfl⟩ := e; exact .refl _
          · cases e
        · exact keep_appendNew e
        · cases e
      · cases e
    case copy ez d s =>
      unfold aCopy at e
      split at e
      · cases e
      · split at e
        · simp only [Option.some.injEq, Prod.mk.injEq] at e; obtain ⟨_, rfl⟩ := e; exact .refl _
        · split at e
          · simp only [Option.some.injEq, Prod.mk.injEq] at e; obtain ⟨_, rfl⟩ := e; exact .refl _
          · split at e
            · split at e
              · rename_i h1 hw
                simp only [Option.some.injEq, Prod.mk.injEq] at e; obtain ⟨_, rfl⟩ := e; exact keep_write hw
              · cases e
            · cases e
        · cases e
    case call f as => cases e

/-! ## The same, for code and calls -/

def KeepOk (call : Nat → List AV → AHeap → Option (AV × AHeap)) : Prop := ∀ f as h v h', call f as h = some (v, h') → Keep h h'
variable {call : Nat → List AV → AHeap → Option (AV × AHeap)} {lf : Nat}

theorem keep_stepOp (hk : KeepOk call) (e : stepOp call op rs vs h = some (v, h')) : Keep h h' := by
  by_cases hcl : ∃ f as, op = .call f as
  · obtain ⟨f, as, rfl⟩ := hcl
    simp only [stepOp] at e
    split at e
    · exact hk _ _ _ _ _ e
    · cases e
  · rw [stepOp_aop (fun f as e => hcl ⟨f, as, e⟩)] at e
    exact keep_aop e
theorem keep_withLim {l : Nat} (hle : h.lim ≤ l) (hl : l ≤ h.n) (k : Keep (h.withLim l) h') : Keep h (h'.withLim h.lim) :=
  ⟨rfl, k.n, fun _ b hb => k.wk hl b (by simp; omega)⟩
/-- The heap's bound is no bound beyond the heap. -/
theorem keep_stepBar (hk : KeepOk call) {o : ARO} (e : stepBar call o rs vs h = some (v, h')) : h'.lim = h.lim ∧ h.n ≤ h'.n ∧ (h.lim ≤ h.n → Keep h h') := by
  unfold stepBar at e
  split at e
  · have := keep_stepOp hk e
    exact ⟨this.lim, this.n, fun _ => this⟩
  · split at e
    · rename_i v1 h1 h2
      simp only [Option.some.injEq, Prod.mk.injEq] at e; obtain ⟨_, rfl⟩ := e
      have := keep_stepOp hk h2
      exact ⟨rfl, this.n, fun hle => keep_withLim hle (Nat.le_refl _) this⟩
    · cases e
  · split at e
    · rename_i hble
      split at e
      · rename_i v1 h1 h2
        simp only [Option.some.injEq, Prod.mk.injEq] at e; obtain ⟨_, rfl⟩ := e
        have := keep_stepOp hk h2
        exact ⟨rfl, this.n, fun _ => keep_withLim (ble_iff.1 hble) (by omega) this⟩
      · cases e
    · cases e
/-- As Keep, if the bound is none beyond the heap. -/
structure Keep' (h h' : AHeap) : Prop where
  lim : h'.lim = h.lim
  n : h.n ≤ h'.n
  wk : h.lim ≤ h.n → ∀ b, b < h.lim → WkO (h.get b) (h'.get b)
theorem keep_runOps (hk : KeepOk call) : ∀ {os : List ARO} {rs vs : List AV} {h : AHeap} {s : St}, runOps call os rs vs h = some s → Keep h s.h
  | [], _, _, h, s, e => by simp only [runOps, Option.some.injEq] at e; subst e; exact .refl _
  | o :: os, rs, vs, h, s, e => by
    simp only [runOps] at e
    split at e
    · split at e
      · rename_i v h1 h2
        have k2 := keep_runOps hk e
        obtain ⟨hl, hn, hkk⟩ := keep_stepBar hk h2
        exact ⟨by rw [k2.lim, hl], Nat.le_trans hn k2.n, fun hle b hb => ((hkk hle).trans k2).wk hle b hb⟩
      · cases e
    · exact keep_runOps hk e
    · cases e
theorem keep_den (hk : KeepOk call) : ∀ {c : ACode} {s s' : St} {ex : Ex}, den call lf c s = some (ex, s') → Keep s.h s'.h
  | .skip, s, s', ex, e => by simp only [den, Option.some.injEq, Prod.mk.injEq] at e; obtain ⟨_, rfl⟩ := e; exact .refl _
  | .ret, s, s', ex, e => by simp only [den, Option.some.injEq, Prod.mk.injEq] at e; obtain ⟨_, rfl⟩ := e; exact .refl _
  | .exit id, s, s', ex, e => by simp only [den, Option.some.injEq, Prod.mk.injEq] at e; obtain ⟨_, rfl⟩ := e; exact .refl _
  | .bad, s, s', ex, e => by simp [den] at e
  | .reg ops, s, s', ex, e => by
    simp only [den] at e
    split at e
    · rename_i s1 h1
      simp only [Option.some.injEq, Prod.mk.injEq] at e; obtain ⟨_, rfl⟩ := e
      exact keep_runOps hk h1
    · cases e
  | .seq a b, s, s', ex, e => by
    simp only [den] at e
    split at e
    · rename_i s1 h1; exact (keep_den hk h1).trans (keep_den hk e)
    · exact keep_den hk e
  | .cond c a b, s, s', ex, e => by
    simp only [den] at e
    split at e
    · exact keep_den hk e
    · exact keep_den hk e
    · cases e
  | .blk id c, s, s', ex, e => by
    simp only [den] at e
    split at e
    · rename_i j s1 h1
      have := keep_den hk h1
      split at e <;> (simp only [Option.some.injEq, Prod.mk.injEq] at e; obtain ⟨_, rfl⟩ := e; exact this)
    · exact keep_den hk e
  | .loop c, s, s', ex, e => by
    simp only [den] at e
    have key : ∀ (n : Nat) (s s' : St) (ex : Ex), iter (den call lf c) n s = some (ex, s') → Keep s.h s'.h := by
      intro n
      induction n with
      | zero => intro s s' ex e; simp [iter] at e
      | succ n ih =>
        intro s s' ex e
        obtain ⟨_, k, hk', ⟨s1, h1, h2⟩ | h1⟩ := iter_split e
        · injection hk' with hk'; subst hk'
          exact (keep_den hk h1).trans (ih _ _ _ h2)
        · exact keep_den hk h1
    exact key lf s s' ex e
theorem keep_acall {fns : Nat → Option AFunc} : ∀ d, KeepOk (acall fns lf d)
  | 0 => fun f as h v h' e => by simp [acall] at e
  | d + 1 => fun f as h v h' e => by
    simp only [acall] at e
    split at e
    · unfold callWith at e
      split at e
      · cases e
      · rename_i ex s _ hd
        split at e
        · simp only [Option.some.injEq, Prod.mk.injEq] at e; obtain ⟨_, rfl⟩ := e
          exact keep_den (keep_acall d) hd
        · cases e
      · cases e
    · cases e

/-! ## What looks at the heap -/

theorem aop_pure (hp : pureA op = true) (e : aop op rs vs h = some (v, h')) : h' = h ∧ ∀ h2, aop op rs vs h2 = some (v, h2) := by
  have r1 : ∀ {x : Option AV}, ret1 h x = some (v, h') → h' = h ∧ ∀ h2, ret1 h2 x = some (v, h2) := fun e => by
    obtain ⟨rfl, rfl⟩ := ret1_some e; exact ⟨rfl, fun _ => rfl⟩
  by_cases hlen : ∃ k x, op = .len k x
  · obtain ⟨k, x, rfl⟩ := hlen
    simp only [aop] at e ⊢
    obtain ⟨e1, rfl⟩ := ret1_some e
    refine ⟨rfl, fun h2 => ?_⟩
    have hk : k ≠ 2 := by rintro rfl; simp [pureA] at hp
    have : aLen h2 k (x.ev rs vs) = some v := by
      rw [← e1]
      unfold aLen
      split <;> first | rfl | exact absurd rfl hk | simp_all
    rw [this]; rfl
  · cases op <;> simp only [pureA, reduceCtorEq] at hp <;> simp only [aop] at e ⊢ <;> first
      | exact r1 e
      | exact absurd ⟨_, _, rfl⟩ hlen
      | (simp only [Option.some.injEq, Prod.mk.injEq] at e; obtain ⟨rfl, rfl⟩ := e; exact ⟨rfl, fun _ => rfl⟩)
      | ((repeat' split at e) <;> first | exact r1 e | (simp only [Option.some.injEq, Prod.mk.injEq] at e; obtain ⟨rfl, rfl⟩ := e; exact ⟨rfl, fun _ => by first | rfl | simp [*]⟩) | (cases e; done) | (obtain ⟨e1, rfl⟩ := ret1_some e; exact ⟨rfl, fun _ => by simp [*, ret1]⟩))

structure HW (h hw : AHeap) : Prop where
  n : hw.n = h.n
  wk : ∀ b, WkO (h.get b) (hw.get b)
theorem HW.cells {h hw : AHeap} (k : HW h hw) {b : Nat} {c : List AV} {st : ASt} {prev : List Nat} {ez : Nat} (e : h.get b = some (.cells c st prev ez)) : ∃ st' prev' ez', hw.get b = some (.cells c st' prev' ez') := by
  have := k.wk b
  rw [e] at this
  generalize hw.get b = x at this
  cases this with | some h => cases h with | cells => exact ⟨_, _, _, rfl⟩
theorem HW.map {h hw : AHeap} (k : HW h hw) {b : Nat} {es : List (AV × AV × Nat)} {cl : Nat} (e : h.get b = some (.map es cl)) : hw.get b = some (.map es cl) := by
  have := k.wk b
  rw [e] at this
  generalize hw.get b = x at this
  cases this with | some h => cases h with | map => rfl
theorem loadAt_weak {h hw : AHeap} (k : HW h hw) {n : Option Nat} {a v : AV} (e : loadAt h n a = some v) : loadAt hw n a = some v := by
  unfold loadAt at e ⊢
  split at e
  · split at e
    · rename_i hg
      obtain ⟨st', prev', ez', h2⟩ := k.cells hg
      simp only [h2]; exact e
    · cases e
  · cases e
theorem firstCells_weak {h hw : AHeap} (k : HW h hw) {ez n : Nat} {a : AV} {l : List AV} (e : firstCells h ez n a = some l) : firstCells hw ez n a = some l := by
  unfold firstCells at e ⊢
  split at e
  · exact e
  · split at e
    · exact e
    · rename_i hn
      split at e
      · rename_i hg
        obtain ⟨st', prev', ez', h2⟩ := k.cells hg
        simp only [h2]; exact e
      · cases e
  · exact e
  · exact e
theorem aop_weak {h hw : AHeap} (hk : HW h hw) (ha : actsA op = false) (hp : pureA op = false) (e : aop op rs vs h = some (v, h')) :
    ∃ hw', aop op rs vs hw = some (v, hw') ∧ ((h' = h ∧ hw' = hw) ∨ ∃ o, h' = h.push o ∧ hw' = hw.push o) := by
  have hn := hk.n
  cases op <;> simp only [actsA, reduceCtorEq] at ha <;> simp only [pureA, reduceCtorEq] at hp <;> simp only [aop] at e ⊢
  case box x =>
    split at e
    · rename_i l hl
      simp only [Option.some.injEq, Prod.mk.injEq] at e; obtain ⟨rfl, rfl⟩ := e
      exact ⟨_, by simp only [hl, hn], .inr ⟨_, rfl, rfl⟩⟩
    · cases e
  case buildSl n ez z ps =>
    split at e
    · rename_i l hl
      simp only [Option.some.injEq, Prod.mk.injEq] at e; obtain ⟨rfl, rfl⟩ := e
      exact ⟨_, by simp only [hl, hn], .inr ⟨_, rfl, rfl⟩⟩
    · cases e
  case load n a =>
    obtain ⟨e1, rfl⟩ := ret1_some e
    exact ⟨hw, by rw [loadAt_weak hk e1]; rfl, .inl ⟨rfl, rfl⟩⟩
  case s2b x =>
    split at e
    · rename_i t ht
      simp only [Option.some.injEq, Prod.mk.injEq] at e; obtain ⟨rfl, rfl⟩ := e
      exact ⟨_, by simp only [hn], .inr ⟨_, rfl, rfl⟩⟩
    · cases e
  case b2s x =>
    split at e
    · simp only [Option.some.injEq, Prod.mk.injEq] at e; obtain ⟨rfl, rfl⟩ := e
      exact ⟨hw, rfl, .inl ⟨rfl, rfl⟩⟩
    · split at e
      · rename_i l hl
        split at e
        · rename_i t ht
          simp only [Option.some.injEq, Prod.mk.injEq] at e; obtain ⟨rfl, rfl⟩ := e
          exact ⟨hw, by simp only [firstCells_weak hk hl, ht], .inl ⟨rfl, rfl⟩⟩
        · cases e
      · cases e
    · cases e
  case mkmap =>
    simp only [Option.some.injEq, Prod.mk.injEq] at e; obtain ⟨rfl, rfl⟩ := e
    exact ⟨_, by rw [hn], .inr ⟨_, rfl, rfl⟩⟩
  case mksl ez bytes z n c =>
    split at e
    · split at e
      · simp only [Option.some.injEq, Prod.mk.injEq] at e; obtain ⟨rfl, rfl⟩ := e
        rename_i h1 h2 h3
        exact ⟨_, by simp only [h1, h2, h3, hn], .inr ⟨_, rfl, rfl⟩⟩
      · cases e
    · cases e
  case look kk z ok m k =>
    obtain ⟨e1, rfl⟩ := ret1_some e
    refine ⟨hw, ?_, .inl ⟨rfl, rfl⟩⟩
    have : aLook hw kk z ok (m.ev rs vs) (k.ev rs vs) = some v := by
      unfold aLook at e1 ⊢
      split at e1
      · exact e1
      · split at e1
        · rename_i hg
          simp only [hk.map hg]; exact e1
        · cases e1
      · cases e1
    rw [this]; rfl
  case len k x =>
    obtain ⟨e1, rfl⟩ := ret1_some e
    refine ⟨hw, ?_, .inl ⟨rfl, rfl⟩⟩
    have : aLen hw k (x.ev rs vs) = some v := by
      unfold aLen at e1 ⊢
      split at e1 <;> first | exact e1 | cases e1 | skip
      split at e1
      · rename_i hg
        simp only [hk.map hg]; exact e1
      · cases e1
    rw [this]; rfl
end
end Go.Av
