/- Functions of the second machine that stand for a function of the first one whose code differs: a copy of a list (nil is not asked for). -/
import Derived.Test.YtgnpkjfaekimcaaDoorAvPE
import Derived.Test.YtgnpkjfaekimcaaDoorAvEq
set_option linter.unusedVariables false
set_option linter.unusedSimpArgs false
set_option linter.unusedSectionVars false
namespace Go.Av
def cloneP (ez bytes : Nat) (z : List AV) : PFunc := ⟨[some 0, none, none], [.v 1],
  .seq (.reg [⟨.len 1 (.v 0), none, none, .full, .d⟩])
  (.seq (.reg [⟨.buildSl 0 ez z [], none, none, .full, .d⟩, ⟨.mv (.v 0), none, none, .full, .d⟩, ⟨.append ez bytes (.r 1) (.r 0), none, none, .full, .d⟩, ⟨.mv (.r 0), none, some 1, .full, .d⟩]) .ret)⟩
def cloneA (ez bytes : Nat) (z : List AV) : AFunc := ⟨[some 0, none, none], [.v 1],
  .seq (.reg [⟨.mv (.c .nils), none, some 1, .full⟩])
  (.seq (.seq (.reg [⟨.mv (.v 0), none, none, .full⟩, ⟨.eq false 2 (.r 0) (.c .nils), none, some 2, .full⟩])
    (.cond (.v 2) (.seq (.reg [⟨.mv (.c .nils), none, some 1, .full⟩]) .ret) .skip))
  (.seq (.reg [⟨.buildSl 0 ez z [], none, none, .full⟩, ⟨.mv (.v 0), none, none, .full⟩, ⟨.append ez bytes (.r 1) (.r 0), none, none, .full⟩, ⟨.mv (.r 0), none, some 1, .full⟩]) .ret))⟩
/-- What a function of the second machine is to a function of the first. -/
def Stands (F : PFunc) (A : AFunc) : Prop := ∀ (pc : PCall) (ac : ACall) (lf : Nat), CallRel pc ac → ∀ {as : List PV} {aas : List AV} {X : Cx} {σ σ' : PH} {v : PV}, pcallWith pc lf F as σ = some (v, σ') → PRel X σ → NoFr X → VRelL X as aas →
    ∃ a X', callWith ac lf A aas X.h = some (a, X'.h) ∧ Tr X X' ∧ PRel X' σ' ∧ NoFr X' ∧ VRel X' v a
theorem stands_era (F : PFunc) : Stands F F.era := fun _ _ _ hc _ _ _ _ _ _ e hp hn hv => callWith_rel hc e hp hn hv
theorem prun_stands {pf : Nat → Option PFunc} {fns : Nat → Option AFunc} {lf : Nat} (hf : ∀ f F, pf f = some F → ∃ A, fns f = some A ∧ Stands F A) : ∀ d, CallRel (prun pf lf d) (acall fns lf d)
  | 0, _, _, _, _, _, _, _, e, _, _, _ => by cases e
  | d + 1, f, as, σ, v, σ', X, aas, e, hp, hn, hv => by
    simp only [prun] at e
    split at e
    · rename_i F h1
      obtain ⟨A, h2, h3⟩ := hf f F h1
      obtain ⟨a, X', a1, a2⟩ := h3 _ _ lf (prun_stands hf d) e hp hn hv
      exact ⟨a, X', by simp only [acall, h2]; exact a1, a2⟩
    · cases e
theorem clone_nil (pc : PCall) (lf ez bytes : Nat) (z : List AV) {as : List PV} {σ σ' : PH} {v : PV} {X : Cx} (hp : PRel X σ) (hv : VRel X (pnth as 0) .nils) (e : pcallWith pc lf (cloneP ez bytes z) as σ = some (v, σ')) :
    v = .ls (.v false true) 0 [] ∧ σ' = σ := by
  unfold pcallWith cloneP at e
  simp only [pinits] at e
  generalize pnth as 0 = x at hv e
  cases hv with
  | und => simp [pden, prunOps, pwanted, pstepBar, pstepOp, pop, AO.pev, pnth, pLen, pret] at e
  | ls0 bo ti _ h =>
    have hrv : ∀ b t : Bool, PH.reads σ (.v b t) = true := fun _ _ => rfl
    cases ti <;>
    (simp [pden, prunOps, pwanted, pstepBar, pstepOp, pop, AO.pev, pnth, pLen, pret, hrv, adj, adj1, prep, ofAVs, pfill, mapC, psetVar, psetn, isBoxP, pAppend, plenOf, pisSl, presAll, presOf, presult] at e
     obtain ⟨rfl, rfl⟩ := e; exact ⟨rfl, rfl⟩)
  | lo0 r v1 _ h hr hz =>
    by_cases hrd : σ.reads (.own r v1) = true
    · simp [pden, prunOps, pwanted, pstepBar, pstepOp, pop, AO.pev, pnth, pLen, pret, hrd, adj, adj1, prep, ofAVs, pfill, mapC, psetVar, psetn, isBoxP, pAppend, plenOf, pisSl, presAll, presOf, presult] at e
      have hrv : ∀ b : Bool, PH.reads σ (.v b true) = true := fun _ => rfl
      simp [hrv] at e
      obtain ⟨rfl, rfl⟩ := e; exact ⟨rfl, rfl⟩
    · simp [pden, prunOps, pwanted, pstepBar, pstepOp, pop, AO.pev, pnth, pLen, pret, hrd] at e
  | plsx r v1 cs o _ hs ha => simp [pden, prunOps, pwanted, pstepBar, pstepOp, pop, AO.pev, pnth, pLen, pret] at e
  | lx r v1 n cs _ hs ha =>
    by_cases hrd : σ.reads (.own r v1) = true
    · exact (not_stale (reads_of hp hrd) hs).elim
    · simp [pden, prunOps, pwanted, pstepBar, pstepOp, pop, AO.pev, pnth, pLen, pret, hrd] at e
theorem clone_same (ac : ACall) (lf ez bytes : Nat) (z : List AV) {aas : List AV} {h : AHeap} {r : AV × AHeap} (hne : nth aas 0 ≠ .nils) (e : callWith ac lf (cloneP ez bytes z).era aas h = some r) : callWith ac lf (cloneA ez bytes z) aas h = some r := by
  unfold callWith at e ⊢
  simp only [cloneP, cloneA, PFunc.era, PCode.era, eras, PRO.era, inits] at e ⊢
  generalize nth aas 0 = x at hne e ⊢
  cases x <;> first
    | (simp [den, runOps, wanted, stepBar, stepOp, aop, AO.ev, nth, aLen, ret1] at e; done)
    | exact absurd rfl hne
    | skip
  rename_i b o n c
  simp only [den, runOps, wanted, stepBar, stepOp, aop, AO.ev, nth, aLen, ret1, setVar, setn, aEq] at e ⊢
  simp [nth, setn, mapB] at e ⊢
  cases hf : fill [] [AV.sl b o n c, AV.und, AV.und] (rep 0 z) [] with
  | none => rw [hf] at e; simp at e
  | some l =>
    have hf2 : fill [] [AV.sl b o n c, AV.nils, AV.b false] (rep 0 z) [] = some l := by simpa [fill] using hf
    rw [hf] at e; rw [hf2]
    simp only at e ⊢
    cases ha : aAppend (h.push (AObj.cells l ASt.rw [] ez)) ez bytes (AV.sl h.n 0 0 (ACap.k 0)) (AV.sl b o n c) with
    | none => rw [ha] at e; simp at e
    | some p =>
      obtain ⟨v, h'⟩ := p
      rw [ha] at e
      simpa [resAll, resOf, nth] using e
theorem clone_stands (ez bytes : Nat) (z : List AV) : Stands (cloneP ez bytes z) (cloneA ez bytes z) := by
  intro pc ac lf hc as aas X σ σ' v e hp hn hv
  by_cases hx : nth aas 0 = .nils
  · have h0 := hv.nth 0
    rw [hx] at h0
    obtain ⟨rfl, rfl⟩ := clone_nil pc lf ez bytes z hp h0 e
    refine ⟨.nils, X, ?_, .refl X, hp, hn, .ls0 _ _ _ trivial⟩
    unfold callWith
    simp only [cloneA, inits, hx]
    simp [den, runOps, wanted, stepBar, stepOp, aop, AO.ev, nth, ret1, setVar, setn, aEq, mapB, resAll, resOf, result]
  · obtain ⟨a, X', a1, a2⟩ := callWith_rel (lf := lf) hc e hp hn hv
    exact ⟨a, X', clone_same ac lf ez bytes z hx a1, a2⟩
end Go.Av
