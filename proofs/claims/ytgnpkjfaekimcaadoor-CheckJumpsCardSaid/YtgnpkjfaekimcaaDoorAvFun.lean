/- Functions and calls. -/
import Derived.Test.YtgnpkjfaekimcaaDoorAvCode
set_option linter.unusedVariables false
set_option linter.unusedSimpArgs false
set_option linter.unusedSectionVars false
namespace Go.Av
section
variable {P : Program} {m m' : Mp} {h h' : AHeap} {w w' : World} {v : AV} {vt : List Nat} {nt : Nat} {a : Act} {lf : Nat}
variable {call : Nat → List AV → AHeap → Option (AV × AHeap)}

/-- One result. -/
def resultOf (tmps : Array Value) : ResultVar → Sem Value
  | .tmp t => pure (tmps.getD t undef)
  | .cell a t => do loadVar t (← asAddr (tmps.getD a undef))
theorem results_eq (fn : Func) (tmps : Array Value) : results fn tmps = (do
    let vs ← fn.results.mapM (resultOf tmps)
    pure (if h : vs.size = 1 then vs[0] else .tuple vs)) := by
  unfold results
  congr 1
theorem res_list {s : St} (hat : At P vt nt s m a w) : ∀ {l : List ResultVar} {r : List ARes} {vals : List AV}, cRes P vt l = some r → resAll s r = some vals →
    ∃ cvs, (l.mapM (resultOf a.tmps)).run P w = .ok cvs w ∧ VRL m vals cvs
  | [], r, vals, hc, hr => by
    simp only [cRes, Option.some.injEq] at hc; subst hc
    simp only [resAll, Option.some.injEq] at hr; subst hr
    exact ⟨[], by simp, .nil⟩
  | .tmp t :: l, r, vals, hc, hr => by
    simp only [cRes] at hc
    split at hc
    · rename_i j r' hj hr'
      injection hc with hc; subst hc
      simp only [resAll, resOf] at hr
      split at hr
      · rename_i x xs hx hxs
        injection hr with hr; subst hr
        injection hx with hx; subst hx
        obtain ⟨cvs, h1, h2⟩ := res_list hat hr' hxs
        exact ⟨a.tmps.getD t undef :: cvs, by simp [List.mapM_cons, resultOf, h1], .cons _ _ _ _ (hat.fr.var j t (idxOf_get hj)) h2⟩
      · cases hr
    · cases hc
  | .cell ad t :: l, r, vals, hc, hr => by
    simp only [cRes] at hc
    split at hc
    · rename_i j n r' hj hn hr'
      injection hc with hc; subst hc
      simp only [resAll, resOf] at hr
      split at hr
      · rename_i x xs hx hxs
        injection hr with hr; subst hr
        obtain ⟨cvs, h1, h2⟩ := res_list hat hr' hxs
        have hv := hat.fr.var j ad (idxOf_get hj)
        obtain ⟨cv, hl, hvr⟩ := load_run hx hn hat.hr.cr hv
        refine ⟨cv :: cvs, ?_, .cons _ _ _ _ hvr h2⟩
        have hload : (resultOf a.tmps (.cell ad t)).run P w = .ok cv w := by
          unfold loadAt at hx
          split at hx
          · rename_i b o hb
            rw [hb] at hv; generalize hca : a.tmps.getD ad undef = ca at hv hl
            cases hv with | p _ _ q hq =>
            simp [Instr.loadAt, Instr.sureAddr] at hl
            simp [resultOf, hca, asAddr, hl]
          · cases hx
        simp [List.mapM_cons, hload, h1]
      · cases hr
    · cases hc
theorem res_run {s : St} (hat : At P vt nt s m a w) {fn : Func} {r : List ARes} {vals : List AV} (hc : cRes P vt fn.results.toList = some r) (hr : resAll s r = some vals) :
    ∃ cv, (results fn a.tmps).run P w = .ok cv w ∧ VR m (result vals) cv := by
  obtain ⟨cvs, h1, h2⟩ := res_list hat hc hr
  rw [results_eq, Array.mapM_eq_mapM_toList]
  have hrun : (Functor.map List.toArray (fn.results.toList.mapM (resultOf a.tmps))).run P w = .ok cvs.toArray w := by simp [h1]
  cases h2 with
  | nil => exact ⟨.tuple #[], by simp [h1], .tup [] #[] .nil⟩
  | cons x c l r hx hl =>
    cases hl with
    | nil => exact ⟨c, by simp [h1], hx⟩
    | cons y d l r hy hl =>
      refine ⟨.tuple (c :: d :: r).toArray, by simp [h1], ?_⟩
      exact .tup _ _ (.cons _ _ _ _ hx (.cons _ _ _ _ hy hl))

theorem inits_len (as : List AV) : ∀ l : List (Option Nat), (inits as l).length = l.length
  | [] => rfl
  | none :: l => by simp [inits, inits_len as l]
  | some i :: l => by simp [inits, inits_len as l]
theorem cIni_len (n : Nat) : ∀ l : List Nat, (cIni n l).length = l.length
  | [] => rfl
  | t :: l => by simp [cIni, cIni_len n l]
theorem inits_get (as : List AV) (n : Nat) : ∀ (l : List Nat) (j t : Nat), l[j]? = some t → nth (inits as (cIni n l)) j = .und ∨ nth (inits as (cIni n l)) j = nth as t
  | [], j, t, h => by simp at h
  | x :: l, j, t, h => by
    cases j with
    | zero =>
      simp at h; subst h
      cases e : Nat.blt x n <;> simp [cIni, e, inits, nth]
    | succ j =>
      have := inits_get as n l j t (by simpa using h)
      cases e : Nat.blt x n <;> simp only [cIni, e, inits, nth] <;> exact this

theorem callWith_ok (hcall : CallOk P call) (hdraw : DrawOk P call) {f : Nat} {F : AFunc} (hF : cFunc P f vt = some F) {as : List AV} (he : callWith call lf F as h = some (v, h')) :
    (∃ fn, P.funcs[f]? = some fn ∧ fn.body.isNone = false ∧ fn.name ≠ "runtime.NumGoroutine") ∧
    ∀ m w (cargs : Array Value), HR P m h w → VRL m as cargs.toList → Calls P f cargs w fun e w' => ∃ cv m', e = .returned cv ∧ Acted P m h w v h' cv w' m' := by
  unfold cFunc at hF
  split at hF
  · cases hF
  rename_i fn hfn
  split at hF
  case h_2 => cases hF
  rename_i c r hb hr
  split at hF
  · cases hF
  rename_i hcond
  injection hF with hF; subst hF
  simp only [not_or] at hcond
  obtain ⟨hname, hnd, hall, hnt⟩ := hcond
  refine ⟨⟨fn, hfn, by simp [hb], hname⟩, fun m w cargs hh hv => ?_⟩
  have hnd : nodupN vt = true := by simpa using hnd
  have hnt : fn.params.size + fn.nfree ≤ fn.ntmps := by omega
  refine calls_of_wp hfn hb ?_
  simp only [callWith] at he
  have hat : At P vt fn.ntmps ⟨inits as (cIni (fn.params.size + fn.nfree) vt), h⟩ m { tmps := cargs ++ Array.replicate (fn.ntmps - cargs.size) undef, defers := [] } w := by
    refine ⟨⟨by simp; omega, rfl, by rw [inits_len, cIni_len], fun j t hj => ?_⟩, hh⟩
    rcases inits_get as (fn.params.size + fn.nfree) vt j t hj with e | e
    · rw [e]; exact .und _
    · rw [e]
      by_cases ht : t < cargs.size
      · have := hv.nthR t undef
        have e2 : (cargs ++ Array.replicate (fn.ntmps - cargs.size) undef).getD t undef = cargs.toList.getD t undef := by
          simp [Array.getElem?_append_left ht, List.getD_eq_getElem?_getD]
        rw [e2]; exact this
      · have hlen := hv.length
        have : nth as t = .und := by
          rw [nth_eq, List.getElem?_eq_none (by simp at hlen; omega)]; rfl
        rw [this]; exact .und _
  split at he
  · cases he
  · rename_i ex s hne hden
    split at he
    · rename_i vals hres
      simp only [Option.some.injEq, Prod.mk.injEq] at he
      obtain ⟨rfl, rfl⟩ := he
      refine den_run hcall hdraw hnd c hden m _ w _ hat fun m' a' w' hat' hx => ?_
      have hpost : a'.defers = [] ∧ ∃ cv, (results fn a'.tmps).run P w' = .ok cv w' ∧ ∃ cv' m', Ending.returned cv = .returned cv' ∧ Acted P m h w (result vals) s.h cv' w' m' := by
        obtain ⟨cv, h1, h2⟩ := res_run (fn := fn) hat' hr hres
        exact ⟨hat'.fr.defers, cv, h1, cv, m', rfl, h2, hat'.hr, hx.grow, hx.chg, hx.n, hx.lim, hx.out⟩
      cases ex with
      | norm => exact hpost
      | ret => exact hpost
      | exit id => exact (hne id rfl).elim
    · cases he
  · cases he

def FnsOk (P : Program) (fns : Nat → Option AFunc) : Prop := ∀ f F, fns f = some F → ∃ vt, cFunc P f vt = some F

theorem acall_ok {fns : Nat → Option AFunc} (hf : FnsOk P fns) (hdraw : ∀ d, CallOk P (acall fns lf d) → DrawOk P (acall fns lf d)) : ∀ d, CallOk P (acall fns lf d)
  | 0 => fun f as h v h' he => by simp [acall] at he
  | d + 1 => fun f as h v h' he => by
    have ih := acall_ok hf hdraw d
    simp only [acall] at he
    split at he
    · rename_i F hF
      obtain ⟨vt, hvt⟩ := hf f F hF
      exact callWith_ok ih (hdraw d ih) hvt he
    · cases he
end
end Go.Av
