/- A region that draws its order: which operation surely comes ahead of which; the abstract machine's steps, one by one. -/
import Derived.Test.YtgnpkjfaekimcaaDoorAvKeep
set_option linter.unusedVariables false
set_option linter.unusedSimpArgs false
set_option linter.unusedSectionVars false
namespace Go.Av

/-! ## Masks -/

/-- Temporaries set by the first k operations, the last first. -/
def dsOf (L : List Oper) (k : Nat) : List (Option Nat) := (L.take k).reverse.map (·.dst)

theorem testBit_two_pow' (n m : Nat) : (2 ^ n).testBit m = decide (n = m) := by
  rw [Nat.testBit_two_pow]
theorem maskOf_bit (ms : List Nat) (k : Nat) : ∀ (es : List Edge) (acc p : Nat), (maskOf ms k es acc).testBit p = true →
    acc.testBit p = true ∨ ∃ e ∈ es, Region.binds .any e = true ∧ (p = e.on ∨ (ms.getD (k - 1 - e.on) 0).testBit p = true)
  | [], acc, p, h => .inl h
  | e :: es, acc, p, h => by
    simp only [maskOf] at h
    split at h
    · rename_i hb
      rcases maskOf_bit ms k es _ p h with h | ⟨e', he', h1, h2⟩
      · simp only [Nat.testBit_or, Bool.or_eq_true, testBit_two_pow', decide_eq_true_eq] at h
        rcases h with (h | h) | h
        · exact .inl h
        · exact .inr ⟨e, by simp, hb, .inl h.symm⟩
        · exact .inr ⟨e, by simp, hb, .inr h⟩
      · exact .inr ⟨e', by simp [he'], h1, h2⟩
    · rcases maskOf_bit ms k es _ p h with h | ⟨e', he', h1, h2⟩
      · exact .inl h
      · exact .inr ⟨e', by simp [he'], h1, h2⟩

theorem masks_length : ∀ (os : List Oper) (k : Nat) (ms : List Nat), (masks os k ms).length = os.length + ms.length
  | [], k, ms => by simp [masks]
  | o :: os, k, ms => by simp only [masks, masks_length os, List.length_cons]; omega
/-- What is there already stays, at the end. -/
theorem masks_old : ∀ (os : List Oper) (k : Nat) (ms : List Nat) (i : Nat), (masks os k ms).getD (os.length + i) 0 = ms.getD i 0
  | [], k, ms, i => by simp [masks]
  | o :: os, k, ms, i => by
    simp only [masks, List.length_cons]
    have : os.length + 1 + i = os.length + (i + 1) := by omega
    rw [this, masks_old os (k + 1) _ (i + 1)]
    simp
theorem masks_get : ∀ (os : List Oper) (k : Nat) (ms : List Nat), ms.length = k → ∀ (i : Nat) (o : Oper), os[i]? = some o →
    (masks os k ms).getD (os.length - 1 - i) 0 = maskOf ((masks os k ms).drop (os.length - i)) (k + i) o.after.toList 0
  | [], k, ms, hk, i, o, h => by simp at h
  | x :: os, k, ms, hk, i, o, h => by
    cases i with
    | zero =>
      simp at h; subst h
      simp only [masks, List.length_cons, Nat.sub_zero, Nat.add_zero, Nat.add_sub_cancel]
      have h1 := masks_old os (k + 1) (maskOf ms k x.after.toList 0 :: ms) 0
      simp only [Nat.add_zero] at h1
      rw [h1]
      have h2 : (masks os (k + 1) (maskOf ms k x.after.toList 0 :: ms)).drop (os.length + 1) = ms := by
        have key : ∀ (os : List Oper) (k : Nat) (ms : List Nat), (masks os k ms).drop os.length = ms := by
          intro os
          induction os with
          | nil => intro k ms; simp [masks]
          | cons y os ih =>
            intro k ms
            simp only [masks, List.length_cons]
            have := ih (k + 1) (maskOf ms k y.after.toList 0 :: ms)
            rw [← List.drop_drop, this]; rfl
        rw [← List.drop_drop, key]; rfl
      rw [h2]; simp
    | succ i =>
      simp only [masks, List.length_cons]
      have hi : i < os.length := (List.getElem?_eq_some_iff.1 (by simpa using h : os[i]? = some o)).1
      have := masks_get os (k + 1) (maskOf ms k x.after.toList 0 :: ms) (by simp [hk]) i o (by simpa using h)
      have e1 : os.length + 1 - 1 - (i + 1) = os.length - 1 - i := by omega
      have e2 : os.length + 1 - (i + 1) = os.length - i := by omega
      have e3 : k + 1 + i = k + (i + 1) := by omega
      rw [e1, e2, ← e3]
      exact this

def maskFn (L : List Oper) (k : Nat) : Nat := (masks L 0 []).getD (L.length - 1 - k) 0
/-- Whatever a mask names is an edge's end, or named by that one's mask. -/
theorem mask_bit {L : List Oper} {k p : Nat} {o : Oper} (ho : L[k]? = some o) (hb : backward k o.after.toList = true) (h : (maskFn L k).testBit p = true) :
    ∃ e ∈ o.after, Region.binds .any e = true ∧ e.on < k ∧ (p = e.on ∨ (maskFn L e.on).testBit p = true) := by
  have hk : k < L.length := (List.getElem?_eq_some_iff.1 ho).1
  have h1 := masks_get L 0 [] rfl k o ho
  unfold maskFn at h
  rw [h1] at h
  rcases maskOf_bit _ _ _ _ _ h with h | ⟨e, he, hbd, h⟩
  · simp at h
  · have hlt : ∀ (es : List Edge), backward k es = true → ∀ e ∈ es, Region.binds .any e = true → e.on < k := by
      intro es
      induction es with
      | nil => intro _ e he; simp at he
      | cons x es ih =>
        intro hb e he hbd
        simp only [backward, Bool.and_eq_true, Bool.or_eq_true, Bool.not_eq_true'] at hb
        rcases List.mem_cons.1 he with rfl | he
        · rcases hb.1 with h | h
          · rw [h] at hbd; cases hbd
          · exact blt_iff.1 h
        · exact ih hb.2 e he hbd
    have hon := hlt _ hb e he hbd
    refine ⟨e, by simpa using he, hbd, hon, ?_⟩
    rcases h with h | h
    · exact .inl h
    · refine .inr ?_
      rw [List.getD_eq_getElem?_getD, List.getElem?_drop] at h
      have : L.length - k + (0 + k - 1 - e.on) = L.length - 1 - e.on := by omega
      rw [this] at h
      unfold maskFn
      rw [List.getD_eq_getElem?_getD]; exact h

/-! ## The compiled operations -/

theorem cOpers_get (P : Program) (vt : List Nat) : ∀ (L : List Oper) (k : Nat) (ds : List (Option Nat)) (i : Nat) (o : Oper), L[i]? = some o →
    (cOpers P vt L k ds)[i]? = some (cOper P vt (k + i) (dsOf L i ++ ds) o)
  | [], k, ds, i, o, h => by simp at h
  | x :: L, k, ds, i, o, h => by
    cases i with
    | zero => simp at h; subst h; simp [cOpers, dsOf]
    | succ i =>
      have := cOpers_get P vt L (k + 1) (x.dst :: ds) i o (by simpa using h)
      simp only [cOpers, List.getElem?_cons_succ, this, dsOf, List.take_succ_cons, List.reverse_cons, List.map_append, List.map_cons, List.map_nil, List.append_assoc, List.singleton_append]
      have : k + 1 + i = k + (i + 1) := by omega
      rw [this]
theorem cOpers_length (P : Program) (vt : List Nat) : ∀ (L : List Oper) (k : Nat) (ds : List (Option Nat)), (cOpers P vt L k ds).length = L.length
  | [], _, _ => rfl
  | x :: L, k, ds => by simp [cOpers, cOpers_length P vt L]
theorem withBars_get (bar : Nat → Bar) : ∀ (l : List ARO) (k i : Nat) (x : ARO), l[i]? = some x → (withBars bar l k)[i]? = some ⟨x.op, x.guard, x.var, bar (k + i)⟩
  | [], k, i, x, h => by simp at h
  | y :: l, k, i, x, h => by
    cases i with
    | zero => simp at h; subst h; simp [withBars]
    | succ i =>
      have := withBars_get bar l (k + 1) i x (by simpa using h)
      simp only [withBars, List.getElem?_cons_succ, this]
      have : k + 1 + i = k + (i + 1) := by omega
      rw [this]
theorem withBars_length (bar : Nat → Bar) : ∀ (l : List ARO) (k : Nat), (withBars bar l k).length = l.length
  | [], _ => rfl
  | y :: l, k => by simp [withBars, withBars_length bar l]

/-! ## The steps -/

def rsOf (V : Nat → AV) : Nat → List AV
  | 0 => []
  | k + 1 => V k :: rsOf V k
theorem rsOf_nth (V : Nat → AV) : ∀ (k d : Nat), d < k → nth (rsOf V k) d = V (k - 1 - d)
  | 0, d, h => by omega
  | k + 1, 0, h => by simp [rsOf, nth]
  | k + 1, d + 1, h => by
    simp only [rsOf, nth]
    rw [rsOf_nth V k d (by omega)]
    congr 1; omega
section
variable {call : Nat → List AV → AHeap → Option (AV × AHeap)}

/-- The k-th step. -/
def StepAt (call : Nat → List AV → AHeap → Option (AV × AHeap)) (b : ARO) (rs vs : List AV) (h : AHeap) (v : AV) (vs' : List AV) (h' : AHeap) : Prop :=
  vs' = setVar vs b.var v ∧ ((wanted rs b.guard = some true ∧ stepBar call b rs vs h = some (v, h')) ∨ (wanted rs b.guard = some false ∧ v = .tup [] ∧ h' = h))

theorem rsOf_shift (V : Nat → AV) (v : AV) (rs : List AV) : ∀ k, rsOf (fun i => match i with | 0 => v | j + 1 => V j) (k + 1) ++ rs = rsOf V k ++ (v :: rs)
  | 0 => by simp [rsOf]
  | k + 1 => by
    have := rsOf_shift V v rs k
    simp only [rsOf, List.cons_append] at this ⊢
    rw [this]

theorem runOps_trace : ∀ {bs : List ARO} {rs vs : List AV} {h : AHeap} {s : St}, runOps call bs rs vs h = some s →
    ∃ (H : Nat → AHeap) (V : Nat → AV) (VS : Nat → List AV), H 0 = h ∧ VS 0 = vs ∧ H bs.length = s.h ∧ VS bs.length = s.vs ∧
      ∀ k b, bs[k]? = some b → StepAt call b (rsOf V k ++ rs) (VS k) (H k) (V k) (VS (k + 1)) (H (k + 1))
  | [], rs, vs, h, s, e => by
    simp only [runOps, Option.some.injEq] at e; subst e
    exact ⟨fun _ => h, fun _ => .und, fun _ => vs, rfl, rfl, rfl, rfl, fun k b hb => by simp at hb⟩
  | o :: os, rs, vs, h, s, e => by
    simp only [runOps] at e
    have main : ∀ (v : AV) (h1 : AHeap), runOps call os (v :: rs) (setVar vs o.var v) h1 = some s → StepAt call o rs vs h v (setVar vs o.var v) h1 →
        ∃ (H : Nat → AHeap) (V : Nat → AV) (VS : Nat → List AV), H 0 = h ∧ VS 0 = vs ∧ H (o :: os).length = s.h ∧ VS (o :: os).length = s.vs ∧
          ∀ k b, (o :: os)[k]? = some b → StepAt call b (rsOf V k ++ rs) (VS k) (H k) (V k) (VS (k + 1)) (H (k + 1)) := by
      intro v h1 e hs
      obtain ⟨H, V, VS, hH, hVS, hHn, hVn, hst⟩ := runOps_trace e
      refine ⟨fun i => match i with | 0 => h | j + 1 => H j, fun i => match i with | 0 => v | j + 1 => V j, fun i => match i with | 0 => vs | j + 1 => VS j, rfl, rfl, hHn, hVn, fun k b hb => ?_⟩
      cases k with
      | zero =>
        simp at hb; subst hb
        simp only [rsOf, List.nil_append, hH, hVS]
        exact hs
      | succ k =>
        rw [rsOf_shift]
        exact hst k b (by simpa using hb)
    split at e
    · rename_i hw
      split at e
      · rename_i v h1 h2
        exact main v h1 e ⟨rfl, .inl ⟨hw, h2⟩⟩
      · cases e
    · rename_i hw
      exact main _ _ e ⟨rfl, .inr ⟨hw, rfl, rfl⟩⟩
    · cases e
end
end Go.Av
