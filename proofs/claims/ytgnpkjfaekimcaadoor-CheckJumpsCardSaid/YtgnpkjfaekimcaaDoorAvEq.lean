/- Equality, and keys of maps. -/
import Derived.Test.YtgnpkjfaekimcaaDoorAvStill
import Derived.Laws.StructEq
set_option linter.unusedVariables false
set_option linter.unusedSimpArgs false
set_option linter.unusedSectionVars false
namespace Go.Av
section
variable {P : Program} {m : Mp}

theorem und_fieldsOf {t : TypeId} {fs : Array Field} (h : P.underlying t = some (.struct fs)) : P.fieldsOf t = fs ∧ P.underlying t = some (.struct (P.fieldsOf t)) := by
  have : P.fieldsOf t = fs := by simp [Program.fieldsOf, h]
  exact ⟨this, by rw [this]; exact h⟩

/-- The elements of an array, one behind the other. -/
def eqElems (d : Nat) (e : TypeId) (n : Nat) (xs ys : Array Value) : List Nat → Sem Bool
  | [] => pure true
  | i :: l => do
    let a ← part e xs (i * n)
    let b ← part e ys (i * n)
    let r ← Op.equalIn d e a b
    if (!r) = true then pure false else eqElems d e n xs ys l
theorem run_equalIn_array {w : World} (d : Nat) {t e : TypeId} {len n : Nat} (xs ys : Array Value) (ht : P.underlying t = some (.array len e)) (he : szOf P e = some n) :
    (Op.equalIn (d + 1) t (.agg xs) (.agg ys)).run P w = (eqElems d e n xs ys (List.range' 0 len)).run P w := by
  simp only [Op.equalIn, Sem.run_bind, run_und ht, Result.andThen_ok, run_sizeOf' he]
  rw [Std.Legacy.Range.forIn_eq_forIn_range']
  simp only [Std.Legacy.Range.size, Nat.sub_zero, Nat.add_sub_cancel, Nat.div_one]
  generalize List.range' 0 len 1 = l
  clear ht
  induction l generalizing w with
  | nil => simp [eqElems]
  | cons i l ih =>
    simp only [List.forIn_cons, eqElems, Sem.run_bind, Sem.run_ite]
    generalize (part e xs (i * n)).run P w = r1
    cases r1 with
    | ok a w1 =>
      simp only [Result.andThen_ok]
      generalize (part e ys (i * n)).run P w1 = r2
      cases r2 with
      | ok b w2 =>
        simp only [Result.andThen_ok]
        generalize (Op.equalIn d e a b).run P w2 = r3
        cases r3 with
        | ok r w3 =>
          cases r
          · simp only [Result.andThen_ok, Bool.not_false, if_true, Sem.run_pure]
          · simp only [Result.andThen_ok, Bool.not_true, Bool.false_eq_true, if_false, Sem.run_pure]
            exact ih
        | halt x w3 => simp [Result.andThen]
      | halt x w2 => simp [Result.andThen]
    | halt x w1 => simp [Result.andThen]

theorem leavesEq_append {a b : List Nat} : ∀ {xs ys : List AV} {r : Bool}, leavesEq (a ++ b) xs ys = some r →
    ∃ r1, leavesEq a (xs.take a.length) (ys.take a.length) = some r1 ∧ (r1 = false → r = false) ∧ (r1 = true → leavesEq b (xs.drop a.length) (ys.drop a.length) = some r) := by
  induction a with
  | nil => intro xs ys r h; exact ⟨true, rfl, by simp, fun _ => by simpa using h⟩
  | cons l a ih =>
    intro xs ys r h
    cases xs with
    | nil => simp [leavesEq] at h
    | cons x xs =>
      cases ys with
      | nil => simp [leavesEq] at h
      | cons y ys =>
        simp only [List.cons_append, leavesEq, List.length_cons, List.take_succ_cons, List.drop_succ_cons] at h ⊢
        split at h
        · exact ih h
        · injection h with h; subst h
          exact ⟨false, rfl, fun _ => rfl, by simp⟩
        · cases h
theorem leavesEq_length : ∀ {a : List Nat} {xs ys : List AV}, leavesEq a xs ys = some true → xs.length = a.length ∧ ys.length = a.length
  | [], xs, ys, h => by cases xs <;> cases ys <;> simp [leavesEq] at h ⊢
  | l :: a, xs, ys, h => by
    cases xs with
    | nil => simp [leavesEq] at h
    | cons x xs =>
      cases ys with
      | nil => simp [leavesEq] at h
      | cons y ys =>
        simp only [leavesEq] at h
        split at h
        · have := leavesEq_length h; simp [this]
        · cases h
        · cases h

theorem leafEq_run {w : World} {l : Nat} {x y : AV} {cx cy : Value} {r : Bool} (d : Nat) {t : TypeId} (h : leafEq l x y = some r) (hx : VR m x cx) (hy : VR m y cy)
    (ht : (l = 0 ∧ ∃ k, P.underlying t = some (.int k)) ∨ (l = 1 ∧ P.underlying t = some .string) ∨ (l = 2 ∧ P.underlying t = some .bool)) :
    (Op.equalIn (d + 1) t cx cy).run P w = .ok r w := by
  unfold leafEq at h
  split at h
  · rename_i k a k' b
    split at h
    · rename_i hk
      injection h with h; subst h
      have := (kEq_iff _ _).1 hk; subst this
      cases hx; cases hy
      rcases ht with ⟨_, k2, hu⟩ | ⟨h0, _⟩ | ⟨h0, _⟩
      · rw [run_equalIn_int w d t k k2 a b hu, beq_dec]
      · cases h0
      · cases h0
    · cases h
  · rename_i a b
    injection h with h; subst h
    cases hx with | s _ ta ea => cases hy with | s _ tb eb =>
    subst ea; subst eb
    rcases ht with ⟨h0, _⟩ | ⟨_, hu⟩ | ⟨h0, _⟩
    · cases h0
    · rw [run_equalIn_string w d t ta tb hu, toList_data, toList_data, seq8_eq]
    · cases h0
  · rename_i a b
    injection h with h; subst h
    cases hx; cases hy
    rcases ht with ⟨h0, _⟩ | ⟨h0, _⟩ | ⟨_, hu⟩
    · cases h0
    · cases h0
    · exact run_equalIn_bool w d t a b hu
  · cases h

theorem VRL.take {l : List AV} {r : List Value} (h : VRL m l r) : ∀ n, VRL m (l.take n) (r.take n) := by
  intro n
  refine .of_get (by have := h.length; simp [this]) fun i x hx => ?_
  rw [get?_eq, List.getElem?_take] at hx
  split at hx
  · obtain ⟨c, hc, hr⟩ := h.get (by rw [get?_eq]; exact hx)
    exact ⟨c, by rw [List.getElem?_take, if_pos (by assumption)]; exact hc, hr⟩
  · cases hx
theorem VRL.drop {l : List AV} {r : List Value} (h : VRL m l r) : ∀ n, VRL m (l.drop n) (r.drop n) := by
  intro n
  refine .of_get (by have := h.length; simp [this]) fun i x hx => ?_
  rw [get?_eq, List.getElem?_drop] at hx
  obtain ⟨c, hc, hr⟩ := h.get (by rw [get?_eq]; exact hx)
  exact ⟨c, by rw [List.getElem?_drop]; exact hc, hr⟩

/-- A part whose type has these leaves. -/
def EqPart (P : Program) (m : Mp) (t : TypeId) (ls : List Nat) (n : Nat) : Prop := ∀ (d : Nat) (w : World) (xs ys : Array Value) (off : Nat) (la lb : List AV) (r : Bool), n ≤ d →
  VRL m la ((xs.toList.drop off).take ls.length) → VRL m lb ((ys.toList.drop off).take ls.length) → leavesEq ls la lb = some r →
  ∃ a b, (part t xs off).run P w = .ok a w ∧ (part t ys off).run P w = .ok b w ∧ (Op.equalIn d t a b).run P w = .ok r w

theorem eqPart_leaf {t : TypeId} {l : Nat} {n : Nat} (hagg : (∀ w, (isAgg t).run P w = .ok false w))
    (ht : (l = 0 ∧ ∃ k, P.underlying t = some (.int k)) ∨ (l = 1 ∧ P.underlying t = some .string) ∨ (l = 2 ∧ P.underlying t = some .bool)) : EqPart P m t [l] (n + 1) := by
  intro d w xs ys off la lb r hd ha hb hr
  obtain ⟨d, rfl⟩ : ∃ k, d = k + 1 := ⟨d - 1, by omega⟩
  match la, lb, hr with
  | [x], [y], hr =>
    simp only [leavesEq] at hr
    obtain ⟨cx, hcx, vx⟩ := ha.get (i := 0) (x := x) rfl
    obtain ⟨cy, hcy, vy⟩ := hb.get (i := 0) (x := y) rfl
    simp only [List.length_cons, List.length_nil, Nat.zero_add, List.getElem?_take, Nat.lt_one_iff, if_true, List.getElem?_drop, Nat.add_zero, Array.getElem?_toList] at hcx hcy
    have hlr : leafEq l x y = some r := by
      split at hr
      · rename_i hl; injection hr with hr; subst hr; exact hl
      · rename_i hl; injection hr with hr; subst hr; exact hl
      · cases hr
    exact ⟨cx, cy, by simp [part, hagg, hcx], by simp [part, hagg, hcy], leafEq_run d hlr vx vy ht⟩
  | [], _, hr => simp [leavesEq] at hr
  | _ :: _ :: _, [], hr => simp [leavesEq] at hr
  | [_], [], hr => simp [leavesEq] at hr
  | [x], y :: z :: l', hr =>
    exfalso
    have := hb.length
    simp at this
    omega
  | x :: z :: l', y :: l'', hr =>
    exfalso
    have := ha.length
    simp at this
    omega

theorem isAgg_scalar {t : TypeId} {d : TypeDesc} (h : P.underlying t = some d) (hd : ∀ f, d ≠ .struct f) (hd2 : ∀ n e, d ≠ .array n e) (w : World) : (isAgg t).run P w = .ok false w := by
  simp only [isAgg, Sem.run_bind, run_und h, Result.andThen_ok]
  cases d <;> first | rfl | exact (hd _ rfl).elim | exact (hd2 _ _ rfl).elim

theorem eqPart_open {t : TypeId} {ls : List Nat} {n : Nat} (hagg : ∀ w, (isAgg t).run P w = .ok true w) (hsz : szOf P t = some ls.length)
    (h : ∀ (d : Nat) (w : World) (xs ys : Array Value) (r : Bool) (la lb : List AV), n ≤ d → VRL m la xs.toList → VRL m lb ys.toList → leavesEq ls la lb = some r → (Op.equalIn d t (.agg xs) (.agg ys)).run P w = .ok r w) :
    EqPart P m t ls n := by
  intro d w xs ys off la lb r hd ha hb hr
  have e : ∀ zs : Array Value, (zs.extract off (off + ls.length)).toList = (zs.toList.drop off).take ls.length := by
    intro zs; rw [Array.toList_extract]; simp [List.extract]
  refine ⟨.agg (xs.extract off (off + ls.length)), .agg (ys.extract off (off + ls.length)), ?_, ?_, h d w _ _ r la lb hd (by rw [e]; exact ha) (by rw [e]; exact hb) hr⟩
  · simp [part, hagg, run_sizeOf' hsz]
  · simp [part, hagg, run_sizeOf' hsz]

/-- A struct's fields, from some field on. -/
theorem eqFields_run {n d : Nat} (hd : n ≤ d) (xs ys : Array Value) :
    ∀ (fs : List Field) (off : Nat) (ls : List Nat) (la lb : List AV) (r : Bool) (w : World), leavesGo P (leaves P n) fs off = some ls →
      (∀ f ∈ fs, ∀ a, leaves P n f.type = some a → szOf P f.type = some a.length → EqPart P m f.type a n) →
      VRL m la ((xs.toList.drop off).take ls.length) → VRL m lb ((ys.toList.drop off).take ls.length) → leavesEq ls la lb = some r →
      (Op.eqFields d xs ys fs).run P w = .ok r w := by
  intro fs
  induction fs with
  | nil =>
    intro off ls la lb r w hl _ ha hb hr
    simp only [leavesGo, Option.some.injEq] at hl; subst hl
    have e1 := ha.length; have e2 := hb.length
    simp at e1 e2
    subst e1; subst e2
    simp only [leavesEq, Option.some.injEq] at hr; subst hr
    simp [Op.eqFields]
  | cons f fs ih =>
    intro off ls la lb r w hl hE ha hb hr
    simp only [leavesGo] at hl
    split at hl
    · cases hl
    · rename_i hcond
      simp only [Bool.or_eq_true, decide_eq_true_eq, not_or, Decidable.not_not, ne_eq] at hcond
      obtain ⟨hname, hoff⟩ := hcond
      split at hl
      · rename_i a z hfa hfz
        split at hl
        · cases hl
        · rename_i hlen
          have hlen : a.length = z := by simpa using hlen
          split at hl
          · rename_i r' hgo
            injection hl with hl; subst hl
            obtain ⟨r1, h1, h2, h3⟩ := leavesEq_append hr
            have ea : ((xs.toList.drop off).take (a ++ r').length).take a.length = (xs.toList.drop off).take a.length := by rw [List.take_take]; congr 1; simp
            have eb : ((ys.toList.drop off).take (a ++ r').length).take a.length = (ys.toList.drop off).take a.length := by rw [List.take_take]; congr 1; simp
            have da : ((xs.toList.drop off).take (a ++ r').length).drop a.length = (xs.toList.drop (off + z)).take r'.length := by
              rw [List.drop_take, List.drop_drop, hlen]; congr 1; simp; omega
            have db : ((ys.toList.drop off).take (a ++ r').length).drop a.length = (ys.toList.drop (off + z)).take r'.length := by
              rw [List.drop_take, List.drop_drop, hlen]; congr 1; simp; omega
            obtain ⟨va, vb, ra, rb, re⟩ := hE f (by simp) a hfa (by rw [hfz, hlen]) d w xs ys off _ _ r1 hd (by rw [← ea]; exact ha.take _) (by rw [← eb]; exact hb.take _) h1
            simp only [Op.eqFields, ne_eq, hname, not_false_eq_true, if_true, hoff, Sem.run_bind, ra, rb, re, Result.andThen_ok, Sem.run_ite]
            cases r1 with
            | false => simp [h2 rfl]
            | true =>
              simp only [Bool.not_true, Bool.false_eq_true, if_false]
              exact ih (off + z) r' _ _ r w hgo (fun g hg => hE g (by simp [hg])) (by rw [← da]; exact ha.drop _) (by rw [← db]; exact hb.drop _) (h3 rfl)
          · cases hl
      · cases hl
theorem eqElems_run {n d z : Nat} {e : TypeId} {a : List Nat} (hd : n ≤ d) (xs ys : Array Value) (ha : a.length = z) (hE : EqPart P m e a n) :
    ∀ (len i : Nat) (la lb : List AV) (r : Bool) (w : World), VRL m la ((xs.toList.drop (i * z)).take ((List.replicate len a).flatten).length) → VRL m lb ((ys.toList.drop (i * z)).take ((List.replicate len a).flatten).length) →
      leavesEq (List.replicate len a).flatten la lb = some r → (eqElems d e z xs ys (List.range' i len)).run P w = .ok r w := by
  intro len
  induction len with
  | zero =>
    intro i la lb r w ha' hb' hr
    have e1 := ha'.length; have e2 := hb'.length
    simp at e1 e2
    subst e1; subst e2
    simp [leavesEq] at hr
    subst hr
    simp [eqElems]
  | succ len ih =>
    intro i la lb r w ha' hb' hr
    simp only [List.replicate_succ, List.flatten_cons] at ha' hb' hr
    obtain ⟨r1, h1, h2, h3⟩ := leavesEq_append hr
    have ea : ∀ zs : List Value, ((zs.drop (i * z)).take (a ++ (List.replicate len a).flatten).length).take a.length = (zs.drop (i * z)).take a.length := by intro zs; rw [List.take_take]; congr 1; simp
    have da : ∀ zs : List Value, ((zs.drop (i * z)).take (a ++ (List.replicate len a).flatten).length).drop a.length = (zs.drop ((i + 1) * z)).take (List.replicate len a).flatten.length := by
      intro zs
      rw [List.drop_take, List.drop_drop, ha]
      congr 1
      · simp; omega
      · rw [Nat.add_mul, Nat.one_mul]
    obtain ⟨va, vb, ra, rb, re⟩ := hE d w xs ys (i * z) _ _ r1 hd (by rw [← ea]; exact ha'.take _) (by rw [← ea]; exact hb'.take _) h1
    simp only [List.range'_succ, eqElems, Sem.run_bind, ra, rb, re, Result.andThen_ok, Sem.run_ite]
    cases r1 with
    | false => simp [h2 rfl]
    | true =>
      simp only [Bool.not_true, Bool.false_eq_true, if_false]
      exact ih (i + 1) _ _ r w (by rw [← da]; exact ha'.drop _) (by rw [← da]; exact hb'.drop _) (h3 rfl)

theorem leaves_succ {t : TypeId} {n : Nat} : leaves P (n + 1) t = (match P.underlying t with
    | some (.int _) => some [0]
    | some .string => some [1]
    | some .bool => some [2]
    | some (.struct fs) =>
      if P.stoodInHeld t then none else leavesGo P (leaves P n) fs.toList 0
    | some (.array len e) => match leaves P n e, szOf P e with
      | some a, some z => if a.length ≠ z then none else some ((List.replicate len a).flatten)
      | _, _ => none
    | _ => none) := rfl
theorem leaves_eqPart : ∀ (n : Nat) (t : TypeId) (ls : List Nat), leaves P n t = some ls → (szOf P t = some ls.length → EqPart P m t ls n)
  | 0, t, ls, h, _ => by simp [leaves] at h
  | n + 1, t, ls, h, hsz => by
    simp only [leaves] at h
    split at h
    · rename_i k hu
      injection h with h; subst h
      exact eqPart_leaf (isAgg_scalar hu (by intro f e; cases e) (by intro a b e; cases e)) (.inl ⟨rfl, k, hu⟩)
    · rename_i hu
      injection h with h; subst h
      exact eqPart_leaf (isAgg_scalar hu (by intro f e; cases e) (by intro a b e; cases e)) (.inr (.inl ⟨rfl, hu⟩))
    · rename_i hu
      injection h with h; subst h
      exact eqPart_leaf (isAgg_scalar hu (by intro f e; cases e) (by intro a b e; cases e)) (.inr (.inr ⟨rfl, hu⟩))
    · rename_i fs hu
      split at h
      · cases h
      · rename_i hst
        refine eqPart_open (fun w => by simp [isAgg, run_und hu]) hsz fun d w xs ys r la lb hd ha hb hr => ?_
        obtain ⟨d, rfl⟩ : ∃ k, d = k + 1 := ⟨d - 1, by omega⟩
        obtain ⟨hf1, hf2⟩ := und_fieldsOf hu
        rw [run_equalIn_struct w d t xs ys hf2 (by simpa using hst), hf1]
        have hlen : ∀ {zs : Array Value} {l : List AV}, VRL m l zs.toList → leavesEq ls la lb = some r → True := fun _ _ => trivial
        refine eqFields_run (m := m) (n := n) (by omega) xs ys fs.toList 0 ls (la.take ls.length) (lb.take ls.length) r w h (fun f _ a ha' hz => leaves_eqPart n f.type a ha' hz) ?_ ?_ ?_
        · simpa using ha.take _
        · simpa using hb.take _
        · have := leavesEq_append (b := []) (by simpa using hr)
          obtain ⟨r1, h1, h2, h3⟩ := this
          cases r1 with
          | false => rw [h1, h2 rfl]
          | true => rw [h1]; have := h3 rfl; revert this; cases la.drop ls.length <;> cases lb.drop ls.length <;> simp [leavesEq]
    · rename_i len e hu
      split at h
      · rename_i a z hla hlz
        split at h
        · cases h
        · rename_i hlen
          have hlen : a.length = z := by simpa using hlen
          injection h with h; subst h
          refine eqPart_open (fun w => by simp [isAgg, run_und hu]) hsz fun d w xs ys r la lb hd ha hb hr => ?_
          obtain ⟨d, rfl⟩ : ∃ k, d = k + 1 := ⟨d - 1, by omega⟩
          rw [run_equalIn_array d xs ys hu hlz]
          refine eqElems_run (m := m) (n := n) (by omega) xs ys hlen (leaves_eqPart n e a hla (by rw [hlz, hlen])) len 0 (la.take (List.replicate len a).flatten.length) (lb.take (List.replicate len a).flatten.length) r w ?_ ?_ ?_
          · simpa using ha.take _
          · simpa using hb.take _
          · obtain ⟨r1, h1, h2, h3⟩ := leavesEq_append (b := []) (by simpa using hr)
            cases r1 with
            | false => rw [h1, h2 rfl]
            | true => rw [h1]; have := h3 rfl; revert this; cases la.drop (List.replicate len a).flatten.length <;> cases lb.drop (List.replicate len a).flatten.length <;> simp [leavesEq]
      · cases h
    · cases h

theorem leavesEq_take {ls : List Nat} {la lb : List AV} {r : Bool} (hr : leavesEq ls la lb = some r) : leavesEq ls (la.take ls.length) (lb.take ls.length) = some r := by
  obtain ⟨r1, h1, h2, h3⟩ := leavesEq_append (b := []) (by simpa using hr)
  cases r1 with
  | false => rw [h1, h2 rfl]
  | true => rw [h1]; have := h3 rfl; revert this; cases la.drop ls.length <;> cases lb.drop ls.length <;> simp [leavesEq]
/-- Two structs, two arrays. -/
theorem leaves_agg {w : World} {n d : Nat} {t : TypeId} {ls : List Nat} (h : leaves P (n + 1) t = some ls) (ht : (∃ fs, P.underlying t = some (.struct fs)) ∨ (∃ k e, P.underlying t = some (.array k e))) (hd : n + 1 ≤ d)
    {xs ys : Array Value} {la lb : List AV} {r : Bool} (ha : VRL m la xs.toList) (hb : VRL m lb ys.toList) (hr : leavesEq ls la lb = some r) : (Op.equalIn d t (.agg xs) (.agg ys)).run P w = .ok r w := by
  obtain ⟨d, rfl⟩ : ∃ k, d = k + 1 := ⟨d - 1, by omega⟩
  simp only [leaves] at h
  rcases ht with ⟨fs, hu⟩ | ⟨len, e, hu⟩
  · rw [hu] at h
    simp only at h
    split at h
    · cases h
    · rename_i hst
      obtain ⟨hf1, hf2⟩ := und_fieldsOf hu
      rw [run_equalIn_struct w d t xs ys hf2 (by simpa using hst), hf1]
      refine eqFields_run (m := m) (n := n) (by omega) xs ys fs.toList 0 ls (la.take ls.length) (lb.take ls.length) r w h (fun f _ a ha' hz => leaves_eqPart n f.type a ha' hz) ?_ ?_ (leavesEq_take hr)
      · simpa using ha.take _
      · simpa using hb.take _
  · rw [hu] at h
    simp only at h
    split at h
    · rename_i a z hla hlz
      split at h
      · cases h
      · rename_i hlen
        have hlen : a.length = z := by simpa using hlen
        injection h with h; subst h
        rw [run_equalIn_array d xs ys hu hlz]
        refine eqElems_run (m := m) (n := n) (by omega) xs ys hlen (leaves_eqPart n e a hla (by rw [hlz, hlen])) len 0 _ _ r w ?_ ?_ (leavesEq_take hr)
        · simpa using ha.take _
        · simpa using hb.take _
    · cases h

/-! ### keys -/

/-- What a key's type is, of its kind. -/
def KeyType (P : Program) (key : TypeId) (kk : KK) : Prop := keyKind P key = some kk

theorem leafEq_self {l : Nat} {a : AV} {r : Bool} (h : leafEq l a a = some r) : r = true := by
  rcases l with _ | _ | _ | l <;> cases a <;> simp [leafEq, seq8_eq, (kEq_iff _ _).2 rfl] at h <;> exact h
theorem leavesEq_self : ∀ {ls : List Nat} {x : List AV} {r : Bool}, leavesEq ls x x = some r → r = true
  | [], x, r, h => by cases x <;> simp [leavesEq] at h; exact h
  | l :: ls, x, r, h => by
    cases x with
    | nil => simp [leavesEq] at h
    | cons a x =>
      simp only [leavesEq] at h
      split at h
      · exact leavesEq_self h
      · rename_i hl; have := leafEq_self hl; cases this
      · cases h
theorem scalar_cases {t : TypeId} (h : scalar P t = true) : ∃ d, P.underlying t = some d ∧ (∀ f, d ≠ .struct f) ∧ (∀ n e, d ≠ .array n e) ∧ (∀ ms, d ≠ .interface ms) := by
  unfold scalar at h
  split at h
  · rename_i hu; exact ⟨_, hu, (by intro _ e; cases e), (by intro _ _ e; cases e), (by intro _ e; cases e)⟩
  · rename_i hu; exact ⟨_, hu, (by intro _ e; cases e), (by intro _ _ e; cases e), (by intro _ e; cases e)⟩
  · rename_i hu; exact ⟨_, hu, (by intro _ e; cases e), (by intro _ _ e; cases e), (by intro _ e; cases e)⟩
  · cases h
theorem checkKey_scalar {w : World} {t : TypeId} {d : TypeDesc} (hu : P.underlying t = some d) (h1 : ∀ f, d ≠ .struct f) (h2 : ∀ n e, d ≠ .array n e) (h3 : ∀ ms, d ≠ .interface ms) (em : Bool) (n : Nat) (v : Value) :
    (Instr.checkKey em (n + 1) t v).run P w = .ok () w := by
  simp only [Instr.checkKey, Sem.run_bind, run_und hu, Result.andThen_ok]
  cases d <;> first | rfl | exact (h1 _ rfl).elim | exact (h2 _ _ rfl).elim | exact (h3 _ rfl).elim
theorem checkKey_run {w : World} {key : TypeId} {kk : KK} {k : AV} {ck : Value} (em : Bool) (hk : KeyType P key kk) (h : okKey kk k = true) (hv : VR m k ck) : (Instr.checkKey em 10000 key ck).run P w = .ok () w := by
  unfold KeyType keyKind at hk
  split at hk
  · rename_i hu; exact checkKey_scalar hu (by intro _ e; cases e) (by intro _ _ e; cases e) (by intro _ e; cases e) em 9999 ck
  · rename_i hu; exact checkKey_scalar hu (by intro _ e; cases e) (by intro _ _ e; cases e) (by intro _ e; cases e) em 9999 ck
  · rename_i hu; exact checkKey_scalar hu (by intro _ e; cases e) (by intro _ _ e; cases e) (by intro _ e; cases e) em 9999 ck
  · rename_i fs hu
    split at hk
    · rename_i l hall hl
      injection hk with hk; subst hk
      unfold okKey at h
      split at h
      · rename_i r hr
        simp only [keyEq] at hr
        split at hr
        · rename_i _ _ x
          cases hv with | agg _ cs hcs =>
          show (Instr.checkKey em (9999 + 1) key (.agg cs)).run P w = .ok () w
          rw [Instr.checkKey]
          simp only [Sem.run_bind, run_und hu, Result.andThen_ok]
          rw [← Array.forIn_toList]
          have hr' := leavesEq_self hr; subst hr'
          obtain ⟨hl1, _⟩ := leavesEq_length hr
          rw [leaves_succ (n := 7)] at hl
          rw [hu] at hl
          simp only at hl
          split at hl
          · cases hl
          · have key : ∀ (fs : List Field) (off : Nat) (ls : List Nat), leavesGo P (leaves P 7) fs off = some ls → (∀ f ∈ fs, scalar P f.type = true) → off + ls.length ≤ cs.size →
                (forIn fs PUnit.unit fun f _ =>
                  if f.name ≠ "_" then do
                    let x ← part f.type cs f.offset
                    Instr.checkKey em 9999 f.type x
                    pure (ForInStep.yield PUnit.unit)
                  else pure (ForInStep.yield PUnit.unit) : Sem PUnit).run P w = .ok PUnit.unit w := by
              intro fs
              induction fs with
              | nil => intro off ls _ _ _; simp
              | cons f fs ih =>
                intro off ls hgo hall hfit
                simp only [leavesGo] at hgo
                split at hgo
                · cases hgo
                · rename_i hcond
                  simp only [Bool.or_eq_true, decide_eq_true_eq, not_or, Decidable.not_not, ne_eq] at hcond
                  split at hgo
                  · rename_i a z hfa hfz
                    split at hgo
                    · cases hgo
                    · rename_i hlen
                      have hlen : a.length = z := by simpa using hlen
                      split at hgo
                      · rename_i r' hgo'
                        injection hgo with hgo; subst hgo
                        obtain ⟨dd, hd0, hd1, hd2, hd3⟩ := scalar_cases (hall f (by simp))
                        have hz1 : a.length = 1 := by
                          have := hall f (by simp)
                          unfold scalar at this
                          rw [leaves_succ (n := 6)] at hfa
                          rw [hd0] at hfa this
                          cases dd <;> simp_all
                          all_goals (rw [← hlen, ← hfa]; rfl)
                        simp at hfit
                        have hget : f.offset < cs.size := by rw [hcond.2]; omega
                        simp only [List.forIn_cons, Sem.run_bind, ne_eq, hcond.1, not_false_eq_true, if_true, part, isAgg_scalar hd0 hd1 hd2, Result.andThen_ok, Bool.false_eq_true, if_false,
                          Array.getElem?_eq_getElem hget, Sem.run_pure, checkKey_scalar hd0 hd1 hd2 hd3 em 9998 _]
                        exact ih (off + z) r' hgo' (fun g hg => hall g (by simp [hg])) (by omega)
                      · cases hgo
                  · cases hgo
            have hsz : cs.size = x.length := by have := hcs.length; simpa using this.symm
            have hfin := key fs.toList 0 l hl (fun f hf => by rw [List.all_eq_true] at hall; exact hall f hf) (by omega)
            rw [hfin]; rfl
        · cases hr
      · cases h
    · cases hk
  · cases hk
end
end Go.Av
