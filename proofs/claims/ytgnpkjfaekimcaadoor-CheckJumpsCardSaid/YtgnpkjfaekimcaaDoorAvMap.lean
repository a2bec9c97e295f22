/- Maps: what is found. -/
import Derived.Test.YtgnpkjfaekimcaaDoorAvEq
set_option linter.unusedVariables false
set_option linter.unusedSimpArgs false
set_option linter.unusedSectionVars false
namespace Go.Av
section
variable {P : Program} {m : Mp}

/-- What was found, in the abstract map and in the model's. -/
def Found (m : Mp) (entries : List MapEntry) (j0 : Nat) : Option (Nat × AV × Nat) → Option (Nat × Value) → Prop
  | none, none => True
  | some (j, v, b), some (i, cv) => i = j ∧ j0 ≤ j ∧ VR m v cv ∧ ∃ e, entries[j - j0]? = some e ∧ e.val = cv ∧ e.born = b
  | _, _ => False

theorem Found.shift {e : MapEntry} {entries : List MapEntry} {j0 : Nat} {a : Option (Nat × AV × Nat)} {b : Option (Nat × Value)} (h : Found m entries (j0 + 1) a b) : Found m (e :: entries) j0 a b := by
  cases a with
  | none => cases b with
    | none => trivial
    | some y => exact h.elim
  | some x =>
    obtain ⟨j, v, bn⟩ := x
    cases b with
    | none => exact h.elim
    | some y =>
      obtain ⟨i, cv⟩ := y
      obtain ⟨h1, h2, h3, e', h4, h5, h6⟩ := h
      refine ⟨h1, by omega, h3, e', ?_, h5, h6⟩
      have : j - j0 = (j - (j0 + 1)) + 1 := by omega
      rw [this, List.getElem?_cons_succ]; exact h4

theorem sameNow_run {l : Nat} {k k' : AV} {ck ck' : Value} {r : Bool} {d : TypeDesc} (h : leafEq l k k' = some r) (hk : VR m k ck) (hk' : VR m k' ck')
    (hd : (l = 0 ∧ ∃ q, d = .int q) ∨ (l = 1 ∧ d = .string) ∨ (l = 2 ∧ d = .bool)) : Instr.sameNow d ck ck' = some r := by
  unfold leafEq at h
  split at h
  · rename_i q a q' b
    split at h
    · rename_i he
      injection h with h; subst h
      have := (kEq_iff _ _).1 he; subst this
      cases hk; cases hk'
      rcases hd with ⟨_, q2, rfl⟩ | ⟨h0, _⟩ | ⟨h0, _⟩
      · simp [Instr.sameNow, beq_dec]
      · cases h0
      · cases h0
    · cases h
  · injection h with h; subst h
    cases hk with | s _ ta ea => cases hk' with | s _ tb eb =>
    subst ea; subst eb
    rcases hd with ⟨h0, _⟩ | ⟨_, rfl⟩ | ⟨h0, _⟩
    · cases h0
    · simp only [Instr.sameNow]; rw [beq_toListBytes, toList_data, toList_data, seq8_eq]
    · cases h0
  · injection h with h; subst h
    cases hk; cases hk'
    rcases hd with ⟨h0, _⟩ | ⟨h0, _⟩ | ⟨_, rfl⟩
    · cases h0
    · cases h0
    · rfl
  · cases h

theorem findNow_run {l : Nat} {k : AV} {ck : Value} {d : TypeDesc} (hk : VR m k ck) (hd : (l = 0 ∧ ∃ q, d = .int q) ∨ (l = 1 ∧ d = .string) ∨ (l = 2 ∧ d = .bool)) :
    ∀ {es : List (AV × AV × Nat)} {entries : List MapEntry} {j : Nat} {res : Option (Nat × AV × Nat)}, MR m es entries → mfind (.sc l) k es j = some res →
      ∃ cres, Instr.findNow d ck entries j = some cres ∧ Found m entries j res cres
  | _, _, j, res, .nil, h => by
    simp only [mfind, Option.some.injEq] at h; subst h
    exact ⟨none, rfl, trivial⟩
  | _, _, j, res, .cons k' v b e es r hk' hv hb hr, h => by
    simp only [mfind, keyEq] at h
    split at h
    · rename_i he
      injection h with h; subst h
      refine ⟨some (j, e.val), ?_, rfl, Nat.le_refl _, hv, e, by simp, rfl, hb⟩
      simp [Instr.findNow, sameNow_run he hk hk' hd]
    · rename_i he
      obtain ⟨cres, h1, h2⟩ := findNow_run hk hd hr h
      refine ⟨cres, ?_, h2.shift⟩
      simp [Instr.findNow, sameNow_run he hk hk' hd, h1]
    · cases h
theorem findAsking_run {w : World} {ls : List Nat} {k : AV} {ck : Value} {key : TypeId} (hk : VR m k ck) (hl : leaves P 8 key = some ls) (ht : ∃ fs, P.underlying key = some (.struct fs)) :
    ∀ {es : List (AV × AV × Nat)} {entries : List MapEntry} {j : Nat} {res : Option (Nat × AV × Nat)}, MR m es entries → mfind (.st ls) k es j = some res →
      ∃ cres, (Instr.findAsking key ck entries j).run P w = .ok cres w ∧ Found m entries j res cres
  | _, _, j, res, .nil, h => by
    simp only [mfind, Option.some.injEq] at h; subst h
    exact ⟨none, rfl, trivial⟩
  | _, _, j, res, .cons k' v b e es r hk' hv hb hr, h => by
    simp only [mfind] at h
    have heq : ∀ r, keyEq (.st ls) k k' = some r → (Op.equal key ck e.key).run P w = .ok r w := by
      intro r hr
      simp only [keyEq] at hr
      split at hr
      · rename_i x y
        cases hk with | agg _ cs hcs => 
        generalize e.key = ek at hk'
        cases hk' with | agg _ ds hds =>
        exact leaves_agg (n := 7) (d := 10000) hl (.inl ht) (by omega) hcs hds hr
      · cases hr
    split at h
    · rename_i he
      injection h with h; subst h
      refine ⟨some (j, e.val), ?_, rfl, Nat.le_refl _, hv, e, by simp, rfl, hb⟩
      simp [Instr.findAsking, heq _ he]
    · rename_i he
      obtain ⟨cres, h1, h2⟩ := findAsking_run (w := w) hk hl ht hr h
      refine ⟨cres, ?_, h2.shift⟩
      simp [Instr.findAsking, heq _ he, h1]
    · cases h
theorem findKey_run {w : World} {kk : KK} {k : AV} {ck : Value} {key : TypeId} {es : List (AV × AV × Nat)} {entries : List MapEntry} {res : Option (Nat × AV × Nat)} (hkt : KeyType P key kk) (hk : VR m k ck)
    (hr : MR m es entries) (h : mfind kk k es 0 = some res) : ∃ cres, (Instr.findKey key ck entries).run P w = .ok cres w ∧ Found m entries 0 res cres := by
  have hsc : ∀ (l : Nat) (d : TypeDesc), P.underlying key = some d → ((l = 0 ∧ ∃ q, d = .int q) ∨ (l = 1 ∧ d = .string) ∨ (l = 2 ∧ d = .bool)) → mfind (.sc l) k es 0 = some res →
      ∃ cres, (Instr.findKey key ck entries).run P w = .ok cres w ∧ Found m entries 0 res cres := by
    intro l d hu hd h
    obtain ⟨cres, h1, h2⟩ := findNow_run hk hd hr h
    exact ⟨cres, by simp [Instr.findKey, run_und hu, h1], h2⟩
  unfold KeyType keyKind at hkt
  split at hkt
  · rename_i q hu; injection hkt with hkt; subst hkt; exact hsc 0 _ hu (.inl ⟨rfl, q, rfl⟩) h
  · rename_i hu; injection hkt with hkt; subst hkt; exact hsc 1 _ hu (.inr (.inl ⟨rfl, rfl⟩)) h
  · rename_i hu; injection hkt with hkt; subst hkt; exact hsc 2 _ hu (.inr (.inr ⟨rfl, rfl⟩)) h
  · rename_i fs hu
    split at hkt
    · rename_i l _ hl
      injection hkt with hkt; subst hkt
      obtain ⟨cres, h1, h2⟩ := findAsking_run (w := w) hk hl ⟨fs, hu⟩ hr h
      cases hr with
      | nil =>
        simp only [mfind, Option.some.injEq] at h; subst h
        exact ⟨none, by simp [Instr.findKey, run_und hu, Instr.findNow], trivial⟩
      | cons k' v b e es r hk' hv hb hr =>
        refine ⟨cres, ?_, h2⟩
        simp only [Instr.findKey, Sem.run_bind, run_und hu, Result.andThen_ok, Instr.findNow, Instr.sameNow]
        exact h1
    · cases hkt
  · cases hkt

theorem MR.length : ∀ {l : List (AV × AV × Nat)} {r : List MapEntry}, MR m l r → l.length = r.length
  | _, _, .nil => rfl
  | _, _, .cons _ _ _ _ _ _ _ _ _ h => by simp [h.length]
theorem MR.set : ∀ {l : List (AV × AV × Nat)} {r : List MapEntry}, MR m l r → ∀ (j : Nat) (v : AV) (f : MapEntry → MapEntry), (∀ k v0 b e, l[j]? = some (k, v0, b) → VR m k e.key → e.born = b → r[j]? = some e → VR m k (f e).key ∧ VR m v (f e).val ∧ (f e).born = b) → MR m (mset l j v) (r.modify j f)
  | _, _, .nil, j, v, f, _ => by simp [mset]; exact .nil
  | _, _, .cons k v0 b e l r hk hv hb h, 0, v, f, hf => by
    obtain ⟨h1, h2, h3⟩ := hf k v0 b e rfl hk hb rfl
    simp only [mset, List.modify_zero_cons]
    exact .cons _ _ _ _ _ _ h1 h2 h3 h
  | _, _, .cons k v0 b e l r hk hv hb h, j + 1, v, f, hf => by
    simp only [mset, List.modify_succ_cons]
    exact .cons _ _ _ _ _ _ hk hv hb (MR.set h j v f (fun k v0 b e hl hk hb he => hf k v0 b e (by simpa using hl) hk hb (by simpa using he)))
theorem MR.append : ∀ {l : List (AV × AV × Nat)} {r : List MapEntry} {l' : List (AV × AV × Nat)} {r' : List MapEntry}, MR m l r → MR m l' r' → MR m (l ++ l') (r ++ r')
  | _, _, _, _, .nil, h => h
  | _, _, _, _, .cons _ _ _ _ _ _ hk hv hb h, h' => .cons _ _ _ _ _ _ hk hv hb (h.append h')
theorem MR.del : ∀ {l : List (AV × AV × Nat)} {r : List MapEntry}, MR m l r → ∀ j, MR m (mdel l j) (r.eraseIdx j)
  | _, _, .nil, j => by simp [mdel]; exact .nil
  | _, _, .cons _ _ _ _ _ _ hk hv hb h, 0 => by simpa [mdel] using h
  | _, _, .cons _ _ _ _ _ _ hk hv hb h, j + 1 => by simp only [mdel, List.eraseIdx_cons_succ]; exact .cons _ _ _ _ _ _ hk hv hb (h.del j)

theorem aLook_run {w : World} {h : AHeap} {kk : KK} {z : AV} {ok : Bool} {mv k v : AV} {cm ck : Value} {t key elem : TypeId} (e : aLook h kk z ok mv k = some v) (hu : P.underlying t = some (.map key elem))
    (hkt : KeyType P key kk) (hz : zeroOf P elem = some z) (hcr : CR m h w) (hm : VR m mv cm) (hk : VR m k ck) : ∃ cv, (Instr.lookup t cm ck ok).run P w = .ok cv w ∧ VR m v cv := by
  obtain ⟨zv, hzr, hzv, _⟩ := zeroOf_run (m := m) (w := w) hz
  have hout : ∀ (x : AV) (cx : Value) (is : Bool), VR m x cx → VR m (lookOut ok x is) (if ok then .tuple #[cx, .bool is] else cx) := by
    intro x cx is hx
    cases ok
    · exact hx
    · exact .tup _ _ (.cons _ _ _ _ hx (.cons _ _ _ _ (.b is) .nil))
  unfold aLook at e
  split at e
  · rename_i hok
    injection e with e; subst e
    cases hm
    exact ⟨_, by simp only [Instr.lookup, Sem.run_bind, run_und hu, Result.andThen_ok, Sem.run_pure, checkKey_run _ hkt hok hk]; simp [Instr.findKey, Instr.findNow, hzr, und_of_key hkt], hout z zv false hzv⟩
  · rename_i b hok
    cases hm with | m _ q hq =>
    obtain ⟨_, _, o, hg, hor⟩ := hcr b q hq
    rw [hg] at e
    cases o with
    | cells => cases e
    | dead => cases e
    | map es cl =>
      cases hor with | map _ _ entries hw he =>
      simp only at e
      have hget : (getObj q.blk).run P w = .ok (.map entries cl) w := by simp [getObj, Sem.run, hw]
      cases hf : mfind kk k es 0 with
      | none => rw [hf] at e; cases e
      | some res =>
        obtain ⟨cres, h1, h2⟩ := findKey_run (w := w) hkt hk he hf
        rw [hf] at e
        cases res with
        | none =>
          cases cres with
          | some y => exact h2.elim
          | none =>
            simp only [Option.some.injEq] at e; subst e
            exact ⟨_, by simp only [Instr.lookup, Sem.run_bind, run_und hu, Result.andThen_ok, Sem.run_pure, hget, checkKey_run _ hkt hok hk, h1, hzr], hout z zv false hzv⟩
        | some x =>
          obtain ⟨j, v', bn⟩ := x
          cases cres with
          | none => exact h2.elim
          | some y =>
            obtain ⟨i, cv⟩ := y
            obtain ⟨_, _, h3, _⟩ := h2
            simp only [Option.some.injEq] at e; subst e
            exact ⟨_, by simp only [Instr.lookup, Sem.run_bind, run_und hu, Result.andThen_ok, Sem.run_pure, hget, checkKey_run _ hkt hok hk, h1], hout v' cv true h3⟩
  · cases e
where
  und_of_key {key : TypeId} {kk : KK} {w : World} (h : KeyType P key kk) : (underlying key).run P w = .ok ((P.underlying key).getD .invalid) w := by
    unfold KeyType keyKind at h
    split at h <;> first | (rename_i hu; rw [run_und hu, hu]; rfl) | cases h
end
end Go.Av
