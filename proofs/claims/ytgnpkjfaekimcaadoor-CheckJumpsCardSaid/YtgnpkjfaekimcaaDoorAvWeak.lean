/- Maps cut off at a number; values that name no later block; heaps of which only the contents count. -/
import Derived.Test.YtgnpkjfaekimcaaDoorAvTrace
set_option linter.unusedVariables false
set_option linter.unusedSimpArgs false
set_option linter.unusedSectionVars false
namespace Go.Av

def Mp.below (m : Mp) (n : Nat) : Mp := fun b => if b < n then m b else none
theorem Mp.below_some {m : Mp} {n b : Nat} {q : BI} : m.below n b = some q ↔ b < n ∧ m b = some q := by
  unfold Mp.below; split
  · simp_all
  · rename_i h; exact ⟨fun e => (by cases e), fun e => absurd e.1 h⟩
theorem Mp.below_le (m : Mp) (n : Nat) : (m.below n).Le m := fun _ _ h => (Mp.below_some.1 h).2
theorem Mp.below_mono {m m' : Mp} {n n' : Nat} (h : m.Le m') (hn : n ≤ n') : (m.below n).Le (m'.below n') := fun b q hb => by
  have := Mp.below_some.1 hb
  exact Mp.below_some.2 ⟨by omega, h _ _ this.2⟩

mutual
inductive WF (n : Nat) : AV → Prop
  | und : WF n .und
  | b (x : Bool) : WF n (.b x)
  | i (k : IntKind) (x : Int) : WF n (.i k x)
  | s (x : List UInt8) : WF n (.s x)
  | nilp : WF n .nilp
  | p (b o : Nat) (h : b < n) : WF n (.p b o)
  | nils : WF n .nils
  | sl (b o k : Nat) (c : ACap) (h : b < n) : WF n (.sl b o k c)
  | nilm : WF n .nilm
  | m (b : Nat) (h : b < n) : WF n (.m b)
  | nilf : WF n .nilf
  | f (fn : Nat) (fi ca : List AV) (hf : WFL n fi) (hc : WFL n ca) : WF n (.f fn fi ca)
  | nili : WF n .nili
  | ifc (t : Nat) (v : AV) (h : WF n v) : WF n (.ifc t v)
  | agg (l : List AV) (h : WFL n l) : WF n (.agg l)
  | tup (l : List AV) (h : WFL n l) : WF n (.tup l)
inductive WFL (n : Nat) : List AV → Prop
  | nil : WFL n []
  | cons (x : AV) (l : List AV) (h : WF n x) (hl : WFL n l) : WFL n (x :: l)
end
mutual
theorem VR.wf {m : Mp} {n : Nat} (hm : ∀ b q, m b = some q → b < n) : ∀ {v : AV} {c : Value}, VR m v c → WF n v
  | _, _, .und v => .und
  | _, _, .b x => .b x
  | _, _, .i k x => .i k x
  | _, _, .s x t e => .s x
  | _, _, .nilp => .nilp
  | _, _, .p b o q e => .p b o (hm _ _ e)
  | _, _, .nils => .nils
  | _, _, .sl b o k c q off e hn ho => .sl b o k c (hm _ _ e)
  | _, _, .nilm => .nilm
  | _, _, .m b q e => .m b (hm _ _ e)
  | _, _, .nilf => .nilf
  | _, _, .f fn fi ca F C hf hc => .f fn fi ca (VRL.wf hm hf) (VRL.wf hm hc)
  | _, _, .nili => .nili
  | _, _, .ifc t v c e => .ifc t v (VR.wf hm e)
  | _, _, .agg l c e => .agg l (VRL.wf hm e)
  | _, _, .tup l c e => .tup l (VRL.wf hm e)
theorem VRL.wf {m : Mp} {n : Nat} (hm : ∀ b q, m b = some q → b < n) : ∀ {l : List AV} {r : List Value}, VRL m l r → WFL n l
  | _, _, .nil => .nil
  | _, _, .cons x c l r e el => .cons x l (VR.wf hm e) (VRL.wf hm el)
end
mutual
theorem VR.cut {m : Mp} {n : Nat} : ∀ {v : AV} {c : Value}, VR m v c → WF n v → VR (m.below n) v c
  | _, _, .und v, _ => .und v
  | _, _, .b x, _ => .b x
  | _, _, .i k x, _ => .i k x
  | _, _, .s x t e, _ => .s x t e
  | _, _, .nilp, _ => .nilp
  | _, _, .p b o q e, .p _ _ h => .p b o q (Mp.below_some.2 ⟨h, e⟩)
  | _, _, .nils, _ => .nils
  | _, _, .sl b o k c q off e hn ho, .sl _ _ _ _ h => .sl b o k c q off (Mp.below_some.2 ⟨h, e⟩) hn ho
  | _, _, .nilm, _ => .nilm
  | _, _, .m b q e, .m _ h => .m b q (Mp.below_some.2 ⟨h, e⟩)
  | _, _, .nilf, _ => .nilf
  | _, _, .f fn fi ca F C hf hc, .f _ _ _ h1 h2 => .f fn fi ca F C (VRL.cut hf h1) (VRL.cut hc h2)
  | _, _, .nili, _ => .nili
  | _, _, .ifc t v c e, .ifc _ _ h => .ifc t v c (VR.cut e h)
  | _, _, .agg l c e, .agg _ h => .agg l c (VRL.cut e h)
  | _, _, .tup l c e, .tup _ h => .tup l c (VRL.cut e h)
theorem VRL.cut {m : Mp} {n : Nat} : ∀ {l : List AV} {r : List Value}, VRL m l r → WFL n l → VRL (m.below n) l r
  | _, _, .nil, _ => .nil
  | _, _, .cons x c l r e el, .cons _ _ h hl => .cons x c l r (VR.cut e h) (VRL.cut el hl)
end

def WFo (n : Nat) : AObj → Prop
  | .cells c _ _ _ => ∀ (i : Nat) (x : AV), c[i]? = some x → WF n x
  | .map es _ => ∀ k v b, (k, v, b) ∈ es → WF n k ∧ WF n v
  | .dead => True
def AObj.weak : AObj → AObj
  | .cells c _ _ _ => .cells c .ro [] 0
  | .map es cl => .map es cl
  | .dead => .dead
theorem AObj.wk_weak (o : AObj) : Wk o o.weak := by cases o <;> constructor
section
variable {m : Mp} {q : BI} {w : World} {o o' : AObj} {n : Nat}
theorem WFo.wk (h : Wk o o') (k : WFo n o) : WFo n o' := by cases h <;> exact k
theorem MR.wf (hm : ∀ b q, m b = some q → b < n) : ∀ {l : List (AV × AV × Nat)} {r : List MapEntry}, MR m l r → ∀ k v b, (k, v, b) ∈ l → WF n k ∧ WF n v
  | _, _, .nil, k, v, b, h => by simp at h
  | _, _, .cons k v b e l r hk hv hb h, k', v', b', hm' => by
    rcases List.mem_cons.1 hm' with e | e
    · injection e with e1 e2; injection e2 with e2 e3; subst e1; subst e2; exact ⟨hk.wf hm, hv.wf hm⟩
    · exact MR.wf hm h _ _ _ e
theorem MR.cut : ∀ {l : List (AV × AV × Nat)} {r : List MapEntry}, MR m l r → (∀ k v b, (k, v, b) ∈ l → WF n k ∧ WF n v) → MR (m.below n) l r
  | _, _, .nil, _ => .nil
  | _, _, .cons k v b e l r hk hv hb h, hw =>
    have h1 := hw k v b (by simp)
    .cons k v b e l r (hk.cut h1.1) (hv.cut h1.2) hb (MR.cut h fun k v b hm => hw k v b (by simp [hm]))
theorem OR.wf (hm : ∀ b q, m b = some q → b < n) (h : OR m q w o) : WFo n o := by
  cases h with
  | cells c st prev ez arr T fz hw hc hrw => intro i x hx; obtain ⟨v, _, hv⟩ := hc i x hx; exact hv.wf hm
  | map es cl entries hw he => exact MR.wf hm he
  | dead => trivial
theorem OR.cut (h : OR m q w o) (hk : Wk o o') (hw : WFo n o') : OR (m.below n) q w o'.weak := by
  cases hk with
  | cells c st st' prev prev' ez ez' =>
    cases h with | cells _ _ _ _ arr T fz hw' hc hrw =>
    refine .cells _ _ _ _ arr T fz hw' (fun i x hx => ?_) (fun e => by cases e)
    obtain ⟨v, hv, hr⟩ := hc i x hx
    exact ⟨v, hv, hr.cut (hw i x hx)⟩
  | map es cl =>
    cases h with | map _ _ entries hw' he ho => exact .map _ _ entries hw' (he.cut hw) ho
  | dead => exact .dead
theorem OR.weak (h : OR m q w o) (hk : Wk o o') : OR m q w o'.weak := by
  cases hk with
  | cells c st st' prev prev' ez ez' =>
    cases h with | cells _ _ _ _ arr T fz hw' hc hrw =>
    exact .cells _ _ _ _ arr T fz hw' hc (fun e => by cases e)
  | map es cl => exact h
  | dead => exact h
end

/-- The same heap, of which only the contents count. -/
def HT.weak : HT → HT
  | .e => .e
  | .n o l r => .n (o.map AObj.weak) l.weak r.weak
def AHeap.weak (h : AHeap) : AHeap := ⟨h.t.weak, h.n, h.lim⟩
theorem HT.get_weak : ∀ (t : HT) (i : Nat), t.weak.get i = (t.get i).map AObj.weak
  | .e, i => rfl
  | .n o l r, i => by
    cases i with
    | zero => rfl
    | succ j =>
      by_cases e : j % 2 = 0
      · rw [HT.get_odd _ _ e, HT.get_odd _ _ e]; exact HT.get_weak l (j / 2)
      · rw [HT.get_even _ _ e, HT.get_even _ _ e]; exact HT.get_weak r (j / 2)
theorem AHeap.get_weak (h : AHeap) (b : Nat) : h.weak.get b = (h.get b).map AObj.weak := HT.get_weak h.t b
theorem AHeap.hw_weak (h : AHeap) : HW h h.weak := by
  refine ⟨rfl, fun b => ?_⟩
  rw [AHeap.get_weak]
  cases h.get b with
  | none => exact .none
  | some o => exact .some o.wk_weak

def deadHeap : Nat → AHeap
  | 0 => .empty
  | n + 1 => (deadHeap n).push .dead
theorem deadHeap_n : ∀ n, (deadHeap n).n = n
  | 0 => rfl
  | n + 1 => by simp [deadHeap, deadHeap_n n]
theorem deadHeap_get : ∀ n b, b < n → (deadHeap n).get b = some .dead
  | 0, b, h => by omega
  | n + 1, b, h => by
    simp only [deadHeap]
    rw [AHeap.get_push, deadHeap_n]
    split
    · rfl
    · exact deadHeap_get n b (by omega)
end Go.Av
