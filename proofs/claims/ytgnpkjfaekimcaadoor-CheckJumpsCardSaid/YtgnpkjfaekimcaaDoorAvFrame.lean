/- Frames: variables, a region's results, operands; one operation's step, calls too; regions that run in order. -/
import Derived.Test.YtgnpkjfaekimcaaDoorAvAct2
import Derived.Orders
set_option linter.unusedVariables false
set_option linter.unusedSimpArgs false
set_option linter.unusedSectionVars false
namespace Go.Av

structure FR (m : Mp) (vt : List Nat) (nt : Nat) (vs : List AV) (a : Act) : Prop where
  size : nt ≤ a.tmps.size
  defers : a.defers = []
  len : vs.length = vt.length
  var : ∀ j t, vt[j]? = some t → VR m (nth vs j) (a.tmps.getD t undef)
/-- The results of the operations that were run, the last first. -/
def RS (m : Mp) (ds : List (Option Nat)) (rs : List AV) (a : Act) : Prop :=
  ∀ d t, ds[d]? = some (some t) → VR m (nth rs d) (a.tmps.getD t undef)

theorem idxSome_get {t : Nat} : ∀ {ds : List (Option Nat)} {d : Nat}, idxSome t ds = some d → ds[d]? = some (some t)
  | [], d, h => by simp [idxSome] at h
  | none :: l, d, h => by
    simp only [idxSome] at h
    split at h
    · rename_i n hn; injection h with h; subst h; simpa using idxSome_get hn
    · cases h
  | some y :: l, d, h => by
    simp only [idxSome] at h
    split at h
    · rename_i hy; injection h with h; subst h; simp [beq_iff.1 hy]
    · split at h
      · rename_i n hn; injection h with h; subst h; simpa using idxSome_get hn
      · cases h
theorem idxOf_get {t : Nat} : ∀ {l : List Nat} {d : Nat}, idxOf t l = some d → l[d]? = some t
  | [], d, h => by simp [idxOf] at h
  | y :: l, d, h => by
    simp only [idxOf] at h
    split at h
    · rename_i hy; injection h with h; subst h; simp [beq_iff.1 hy]
    · split at h
      · rename_i n hn; injection h with h; subst h; simpa using idxOf_get hn
      · cases h
theorem idxOf_none {t : Nat} : ∀ {l : List Nat}, idxOf t l = none → ∀ i : Nat, l[i]? ≠ some t
  | [], _, i => by simp
  | y :: l, h, i => by
    simp only [idxOf] at h
    split at h
    · cases h
    · rename_i hy
      split at h
      · cases h
      · rename_i hn
        cases i with
        | zero =>
          intro e; simp at e; subst e
          have : Nat.beq y y = true := beq_iff.2 rfl
          simp [this] at hy
        | succ i => simpa using idxOf_none hn i
theorem nodupN_inj : ∀ {l : List Nat}, nodupN l = true → ∀ i j t : Nat, l[i]? = some t → l[j]? = some t → i = j
  | [], _, i, j, t, h, _ => by simp at h
  | x :: l, h, i, j, t, hi, hj => by
    simp only [nodupN, Bool.and_eq_true] at h
    obtain ⟨h1, h2⟩ := h
    have hx : idxOf x l = none := by
      split at h1
      · cases h1
      · rename_i e; exact e
    cases i with
    | zero =>
      cases j with
      | zero => rfl
      | succ j =>
        simp at hi; subst hi
        exact absurd (by simpa using hj) (idxOf_none hx j)
    | succ i =>
      cases j with
      | zero =>
        simp at hj; subst hj
        exact absurd (by simpa using hi) (idxOf_none hx i)
      | succ j => rw [nodupN_inj h2 i j t (by simpa using hi) (by simpa using hj)]
theorem dstIn_of {t : Nat} : ∀ {l : List (Option Nat)} {i : Nat}, l[i]? = some (some t) → dstIn t l = true
  | [], i, h => by simp at h
  | x :: l, i, h => by
    cases i with
    | zero => simp at h; subst h; simp [dstIn, beq_iff]
    | succ i =>
      have := dstIn_of (l := l) (i := i) (by simpa using h)
      cases x with
      | none => simpa [dstIn] using this
      | some y => simp [dstIn, this]
theorem nodupDst_inj : ∀ {l : List (Option Nat)}, nodupDst l = true → ∀ i j t : Nat, l[i]? = some (some t) → l[j]? = some (some t) → i = j
  | [], _, i, j, t, h, _ => by simp at h
  | x :: l, h, i, j, t, hi, hj => by
    have h2 : nodupDst l = true := by
      cases x with
      | none => simpa [nodupDst] using h
      | some y => simp only [nodupDst, Bool.and_eq_true] at h; exact h.2
    cases i with
    | zero =>
      cases j with
      | zero => rfl
      | succ j =>
        simp at hi; subst hi
        simp only [nodupDst, Bool.and_eq_true, Bool.not_eq_true'] at h
        rw [dstIn_of (l := l) (i := j) (by simpa using hj)] at h; simp at h
    | succ i =>
      cases j with
      | zero =>
        simp at hj; subst hj
        simp only [nodupDst, Bool.and_eq_true, Bool.not_eq_true'] at h
        rw [dstIn_of (l := l) (i := i) (by simpa using hi)] at h; simp at h
      | succ j => rw [nodupDst_inj h2 i j t (by simpa using hi) (by simpa using hj)]
theorem dstsBelow_get {n : Nat} : ∀ {l : List (Option Nat)}, dstsBelow n l = true → ∀ i t : Nat, l[i]? = some (some t) → t < n
  | [], _, i, t, h => by simp at h
  | x :: l, h, i, t, hi => by
    have h2 : dstsBelow n l = true := by
      cases x with
      | none => simpa [dstsBelow] using h
      | some y => simp only [dstsBelow, Bool.and_eq_true] at h; exact h.2
    cases i with
    | zero =>
      simp at hi; subst hi
      simp only [dstsBelow, Bool.and_eq_true] at h
      exact blt_iff.1 h.1
    | succ i => exact dstsBelow_get h2 i t (by simpa using hi)

section
variable {P : Program} {m m' : Mp} {h h' : AHeap} {w w' : World} {v : AV} {cv : Value} {rs vs : List AV} {vt : List Nat} {nt : Nat} {ds : List (Option Nat)} {a : Act} {op : AOp}

theorem FR.mono (hl : m.Le m') (hf : FR m vt nt vs a) : FR m' vt nt vs a := ⟨hf.size, hf.defers, hf.len, fun j t e => (hf.var j t e).mono hl⟩
theorem RS.mono (hl : m.Le m') (hf : RS m ds rs a) : RS m' ds rs a := fun d t e => (hf d t e).mono hl

theorem operand_frame (hg : Glob P m) (hv : ∀ j t, vt[j]? = some t → VR m (nth vs j) (a.tmps.getD t undef)) (hr : RS m ds rs a) {x : Operand} {ao : AO}
    (hc : cOperand P vt ds x = some ao) : VR m (ao.ev rs vs) (a.eval x) := by
  cases x with
  | tmp t =>
    simp only [cOperand] at hc
    split at hc
    · rename_i d hd; injection hc with hc; subst hc
      exact hr d t (idxSome_get hd)
    · split at hc
      · rename_i j hj; injection hc with hc; subst hc
        exact hv j t (idxOf_get hj)
      · cases hc
  | const c =>
    simp only [cOperand] at hc
    split at hc
    · rename_i y hy; injection hc with hc; subst hc
      exact ofValue_VR hy
    · cases hc
  | func f =>
    simp only [cOperand, Option.some.injEq] at hc; subst hc
    exact .f f [] [] #[] #[] .nil .nil
  | global g =>
    simp only [cOperand] at hc
    split at hc
    · rename_i hb; injection hc with hc; subst hc
      exact .p g 0 _ (hg g (blt_iff.1 hb))
    · cases hc
theorem ops_frame (hg : Glob P m) (hf : FR m vt nt vs a) (hr : RS m ds rs a) (xs : List Operand) : Ops P m vt ds rs vs a.eval xs :=
  fun _ _ _ hc => operand_frame hg hf.var hr hc

theorem getD_put {t t' : Nat} (hlt : t < a.tmps.size) (c : Value) : (a.put (some t) c).tmps.getD t' undef = if t' = t then c else a.tmps.getD t' undef := by
  simp only [Act.put, Array.getD_eq_getD_getElem?, Array.getElem?_setIfInBounds]
  by_cases e : t = t'
  · subst e; simp [hlt]
  · rw [if_neg e, if_neg (Ne.symm e)]
theorem size_put (a : Act) (d : Option Nat) (c : Value) : (a.put d c).tmps.size = a.tmps.size := by cases d <;> simp [Act.put]
theorem defers_put (a : Act) (d : Option Nat) (c : Value) : (a.put d c).defers = a.defers := by cases d <;> rfl

def varOf (vt : List Nat) (d : Option Nat) : Option Nat :=
  match d with
  | some t => idxOf t vt
  | none => none
theorem nth_setn (l : List AV) (i j : Nat) (x : AV) (hj : j < l.length) : nth (setn l i x) j = if j = i then x else nth l j := by
  rw [setn_eq, nth_eq, nth_eq, List.getElem?_set]
  by_cases e : j = i
  · subst e; simp [hj]
  · rw [if_neg (Ne.symm e), if_neg e]
theorem setn_length (l : List AV) (i : Nat) (x : AV) : (setn l i x).length = l.length := by rw [setn_eq]; simp
theorem FR.put (hf : FR m vt nt vs a) (hn : nodupN vt = true) (hv : VR m v cv) (d : Option Nat) (hd : ∀ t, d = some t → t < nt) :
    FR m vt nt (setVar vs (varOf vt d) v) (a.put d cv) := by
  refine ⟨by rw [size_put]; exact hf.size, by rw [defers_put, hf.defers], ?_, ?_⟩
  · cases varOf vt d with
    | none => exact hf.len
    | some i => simp only [setVar]; rw [setn_length, hf.len]
  · intro j t hj
    cases d with
    | none => exact hf.var j t hj
    | some y =>
      have hy := hd y rfl
      rw [getD_put (Nat.lt_of_lt_of_le hy hf.size)]
      have hjl : j < vs.length := by
        rw [hf.len]; exact (List.getElem?_eq_some_iff.1 hj).1
      cases hi : idxOf y vt with
      | none =>
        have : t ≠ y := by rintro rfl; exact idxOf_none hi j hj
        simp only [varOf, hi, setVar, if_neg this]
        exact hf.var j t hj
      | some i =>
        have h1 := idxOf_get hi
        simp only [varOf, hi, setVar]
        rw [nth_setn _ _ _ _ hjl]
        by_cases e : j = i
        · subst e
          rw [hj] at h1; injection h1 with h1; subst h1
          simp [hv]
        · have : t ≠ y := by rintro rfl; exact e (nodupN_inj hn _ _ _ hj h1)
          rw [if_neg e, if_neg this]
          exact hf.var j t hj
theorem RS.put (hr : RS m ds rs a) (hv : VR m v cv) (d : Option Nat) (hsz : ∀ t, d = some t → t < a.tmps.size) (hd : ∀ t, d = some t → dstIn t ds = false) : RS m (d :: ds) (v :: rs) (a.put d cv) := by
  intro i t hi
  cases i with
  | zero =>
    simp at hi; subst hi
    rw [getD_put (hsz t rfl), if_pos rfl]
    exact hv
  | succ i =>
    have hi' : ds[i]? = some (some t) := by simpa using hi
    simp only [nth]
    cases d with
    | none => exact hr i t hi'
    | some y =>
      rw [getD_put (hsz y rfl)]
      have : t ≠ y := by
        rintro rfl
        have := hd t rfl
        rw [dstIn_of hi'] at this; cases this
      rw [if_neg this]
      exact hr i t hi'

theorem Still.acted (k : Still m h w v h' cv w' m') (hh : HR P m h w) : Acted P m h w v h' cv w' m' :=
  ⟨k.vr, k.hr hh, k.grow hh.cr.fresh, k.new.chg m, k.lim.2.1, k.lim.1, fun b hb _ => k.lim.2.2 b hb⟩

/-- What is asked of the calls that an operation makes. -/
def CallOk (P : Program) (call : Nat → List AV → AHeap → Option (AV × AHeap)) : Prop :=
  ∀ f as h v h', call f as h = some (v, h') →
    (∃ fn, P.funcs[f]? = some fn ∧ fn.body.isNone = false ∧ fn.name ≠ "runtime.NumGoroutine") ∧
    ∀ m w (cargs : Array Value), HR P m h w → VRL m as cargs.toList → Calls P f cargs w fun e w' => ∃ cv m', e = .returned cv ∧ Acted P m h w v h' cv w' m'

variable {call : Nat → List AV → AHeap → Option (AV × AHeap)} {K : Act → World → Prop} {Q : Exit → Act → World → Prop}

theorem stepOp_aop (h1 : ∀ f as, op ≠ .call f as) : stepOp call op rs vs h = aop op rs vs h := by
  cases op <;> first | rfl | exact absurd rfl (h1 _ _)

theorem cOp_call {o : Op} {f : AO} {as : List AO} (hc : cOp P vt ds o = some (.call f as)) :
    ∃ c g, o = .call c ∧ c.callee = .value g ∧ cOperand P vt ds g = some f ∧ cOperands P vt ds c.args.toList = some as := by
  cases o with
  | call c =>
    simp only [cOp, cCall] at hc
    split at hc
    · cases hc
    · rename_i as' has
      split at hc
      · rename_i g hg
        split at hc
        · rename_i gg hgg
          simp only [Option.some.injEq, AOp.call.injEq] at hc
          obtain ⟨rfl, rfl⟩ := hc
          exact ⟨c, g, rfl, hg, hgg, has⟩
        · cases hc
      · cases hc
      · exfalso
        (repeat' split at hc) <;> first | cases hc | (injection hc with hc; cases hc)
  | makeFunc fn fi ca => cases fn <;> simp only [cOp] at hc <;> (repeat' split at hc) <;> first | cases hc | (injection hc with hc; cases hc)
  | makeMap t r => cases r <;> simp [cOp] at hc
  | binOp bop t x y t2 =>
    simp only [cOp, cBin] at hc
    split at hc
    · cases bop <;> simp only at hc <;> (repeat' split at hc) <;> first | cases hc | (injection hc with hc; cases hc)
    · cases hc
  | convert s t x =>
    simp only [cOp, cConvert] at hc
    (repeat' split at hc) <;> first | cases hc | (injection hc with hc; cases hc)
  | slice t x lo hi mx =>
    simp only [cOp, cSlice] at hc
    (repeat' split at hc) <;> first | cases hc | (injection hc with hc; cases hc)
  | _ =>
    simp only [cOp] at hc
    first | cases hc | ((repeat' split at hc) <;> first | cases hc | (injection hc with hc; cases hc))

theorem call_wp (hcall : CallOk P call) {o : Oper} {f : AO} {as : List AO} (hc : cOp P vt ds o.op = some (.call f as)) (he : stepOp call (.call f as) rs vs h = some (v, h')) (hh : HR P m h w)
    (hop : Ops P m vt ds rs vs a.eval o.op.operands.toList) (hK : ∀ cv w' m', Acted P m h w v h' cv w' m' → K (a.put o.dst cv) w') : o.wp P a w K Q := by
  obtain ⟨c, g, ho, hcal, hg, has⟩ := cOp_call hc
  obtain ⟨dst, oo, ty, pos, aft, gd⟩ := o
  simp only at ho; subst ho
  have vg := hop g (by simp [Op.operands, Call.operands, hcal]) f hg
  have va := ops_list has (fun x hx => hop x (by
    simp only [Op.operands, Call.operands, hcal]
    simp; exact .inr (by simpa using hx)))
  simp only [stepOp] at he
  split at he
  · rename_i fn fi ca hfv
    rw [hfv] at vg; generalize hcg : a.eval g = cg at vg
    cases vg with
    | f _ _ _ F C hF hC =>
      obtain ⟨⟨func, hfun, hbody, hname⟩, hcalls⟩ := hcall _ _ _ _ _ he
      have harg : VRL m (fi ++ (evs rs vs as ++ ca)) ((F ++ c.args.map a.eval) ++ C).toList := by
        have : ((F ++ c.args.map a.eval) ++ C).toList = F.toList ++ (c.args.toList.map a.eval ++ C.toList) := by simp
        rw [this]
        exact hF.append (va.append hC)
      have hex : (execOp a.eval ⟨dst, .call c, ty, pos, aft, gd⟩).run P w = .ok (.enter fn ((F ++ c.args.map a.eval) ++ C)) w := by
        have hnm : (func.name == "runtime.NumGoroutine") = false := by simpa using hname
        simp only [execOp, resolve, hcal, hcg, Deferred.ofValue, invoke, callFunc, Sem.run_bind, run_program, Result.andThen_ok, hfun, hbody, hnm, Sem.run_pure]
        rfl
      unfold Oper.wp
      rw [hex, Oper.upon_enter]
      refine Calls.mono (hcalls m w _ hh harg) fun e w' hew => ?_
      obtain ⟨cv, m', rfl, hact⟩ := hew
      exact hK cv w' m' hact
  · cases he

theorem step_run (hcall : CallOk P call) {o : Oper} (hc : cOp P vt ds o.op = some op) (he : stepOp call op rs vs h = some (v, h')) (hh : HR P m h w)
    (hop : Ops P m vt ds rs vs a.eval o.op.operands.toList) (hK : ∀ cv w' m', Acted P m h w v h' cv w' m' → K (a.put o.dst cv) w') : o.wp P a w K Q := by
  by_cases hcl : ∃ f as, op = .call f as
  · obtain ⟨f, as, rfl⟩ := hcl
    exact call_wp hcall hc he hh hop hK
  · have hn : ∀ f as, op ≠ .call f as := fun f as e => hcl ⟨f, as, e⟩
    rw [stepOp_aop hn] at he
    cases hact : actsA op with
    | false =>
      obtain ⟨cv, w', m', hr, hst⟩ := still_run hc hact he hh.cr hop
      unfold Oper.wp
      rw [hr, Oper.upon_value]
      exact hK cv w' m' (hst.acted hh)
    | true =>
      obtain ⟨cv, w', m', hg, ha⟩ := act_run hc hact he hh hop
      unfold Oper.wp
      rcases hg with hr | ⟨hr, rfl⟩
      · rw [hr, Oper.upon_value]; exact hK cv w' m' ha
      · rw [hr, Oper.upon_skip]; exact hK undef w' m' ha
end
end Go.Av
