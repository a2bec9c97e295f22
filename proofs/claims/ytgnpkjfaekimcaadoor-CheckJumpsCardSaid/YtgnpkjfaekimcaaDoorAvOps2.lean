/- Operations that act on nothing that is there, second part: all of them. -/
import Derived.Test.YtgnpkjfaekimcaaDoorAvOps
import Derived.Laws.BytesString
set_option linter.unusedVariables false
set_option linter.unusedSimpArgs false
set_option linter.unusedSectionVars false
namespace Go.Av
section
variable {P : Program} {m : Mp} {h h' : AHeap} {w : World} {v : AV} {rs vs : List AV} {vt : List Nat} {ds : List (Option Nat)} {ρ : Operand → Value}

/-- What is asked of the operands. -/
def Ops (P : Program) (m : Mp) (vt : List Nat) (ds : List (Option Nat)) (rs vs : List AV) (ρ : Operand → Value) (xs : List Operand) : Prop :=
  ∀ x ∈ xs, ∀ a, cOperand P vt ds x = some a → VR m (a.ev rs vs) (ρ x)

theorem ops_list {xs : List Operand} {as : List AO} (hc : cOperands P vt ds xs = some as) (hop : Ops P m vt ds rs vs ρ xs) : VRL m (evs rs vs as) (xs.map ρ) := by
  induction xs generalizing as with
  | nil => simp only [cOperands, Option.some.injEq] at hc; subst hc; exact .nil
  | cons x xs ih =>
    simp only [cOperands] at hc
    split at hc
    · rename_i a r ha hr
      injection hc with hc; subst hc
      exact .cons _ _ _ _ (hop x (by simp) a ha) (ih hr (fun y hy => hop y (by simp [hy])))
    · cases hc
theorem ops_opt {x : Option Operand} {a : Option AO} (hc : cOpt P vt ds x = some a) (hop : Ops P m vt ds rs vs ρ x.toList) : OVR m (evOpt rs vs a) (x.map ρ) := by
  cases x with
  | none => simp only [cOpt, Option.some.injEq] at hc; subst hc; trivial
  | some x =>
    simp only [cOpt] at hc
    split at hc
    · rename_i b hb
      injection hc with hc; subst hc
      exact hop x (by simp) b hb
    · cases hc
theorem ret1_some {o : Option AV} {v : AV} {h h' : AHeap} (e : ret1 h o = some (v, h')) : o = some v ∧ h' = h := by
  cases o with
  | none => cases e
  | some x => simp only [ret1, Option.some.injEq, Prod.mk.injEq] at e; exact ⟨by rw [e.1], e.2.symm⟩

/-- The end that all of them have. -/
def StillRun (P : Program) (m : Mp) (h : AHeap) (w : World) (ρ : Operand → Value) (o : Oper) (v : AV) (h' : AHeap) : Prop :=
  ∃ cv w' m', (execOp ρ o).run P w = .ok (.value cv) w' ∧ Still m h w v h' cv w' m'

theorem still_pure {o : Oper} {cv : Value} (he : (execOp ρ o).run P w = .ok (.value cv) w) (hv : VR m v cv) (hh : h' = h) : StillRun P m h w ρ o v h' :=
  ⟨cv, w, m, he, .same hh rfl rfl hv⟩

theorem run_v {s : Sem Value} {cv : Value} {w' : World} (hr : s.run P w = .ok cv w') : (do pure (Next.value (← s)) : Sem Next).run P w = .ok (.value cv) w' := by simp [hr]

theorem still_build {dst : Option Tmp} {ty : TypeId} {pos : String} {aft : Array Edge} {gd : Option (Nat × Bool)} {t : TypeId} {parts : Array (Nat × Operand)} {op : AOp}
    (hc : cOp P vt ds (.build t parts) = some op) (he : aop op rs vs h = some (v, h')) (hop : Ops P m vt ds rs vs ρ (parts.toList.map (·.2))) : StillRun P m h w ρ ⟨dst, .build t parts, ty, pos, aft, gd⟩ v h' := by
  simp only [cOp] at hc
  have hmap : ∀ f : Nat × Operand → Nat × Value, (parts.map f).toList = parts.toList.map f := fun f => by simp
  split at hc
  · rename_i fs z hu hz
    split at hc
    · rename_i pl hpl
      split at hc
      · rename_i l hl
        injection hc with hc; subst hc
        simp only [aop] at he
        split at he
        · rename_i r hf
          simp only [Option.some.injEq, Prod.mk.injEq] at he
          obtain ⟨rfl, rfl⟩ := he
          obtain ⟨zv, hzr, _, hzl⟩ := zeroOf_run (m := m) (w := w) hz
          obtain ⟨arr', hfr, hvr⟩ := fill_run (ρ := ρ) parts.toList l z.cellsOf r zv.cells hl hf hzl hop
          have hpm : (fs.mapM fun (f : Field) => do pure (f.offset, ← sizeOf f.type)).run P w = .ok pl.toArray w := by
            rw [Array.mapM_eq_mapM_toList]
            have : ∀ (l : List Field) (pl : List (Nat × Nat)), placesOf P l = some pl → (l.mapM (fun (f : Field) => do pure (f.offset, ← sizeOf f.type)) : Sem (List (Nat × Nat))).run P w = .ok pl w := by
              intro l
              induction l with
              | nil => intro pl h; simp only [placesOf, Option.some.injEq] at h; subst h; simp
              | cons f l ih =>
                intro pl h
                simp only [placesOf] at h
                split at h
                · rename_i z' r' h1 h2
                  injection h with h; subst h
                  simp only [List.mapM_cons, Sem.run_bind, run_sizeOf' h1, Result.andThen_ok, Sem.run_pure, ih r' h2]
                · cases h
            simp only [Sem.run_map, this fs.toList pl hpl, Result.andThen_ok]
          refine still_pure (cv := .agg arr') (run_v ?_) (.agg _ _ hvr) rfl
          simp only [Instr.build, Sem.run_bind, hzr, Result.andThen_ok, run_und hu, hpm, hmap]
          have : Instr.fill (pl.toArray[·]?) zv.cells (parts.toList.map fun (i, x) => (i, ρ x)) = some arr' := by rw [← hfr]; congr 1; funext i; simp
          rw [this]
          simp
        · cases he
      · cases hc
    · cases hc
  · rename_i n e z hu hz
    split at hc
    · rename_i n' hn'
      split at hc
      · rename_i l hl
        injection hc with hc; subst hc
        simp only [aop] at he
        split at he
        · rename_i r hf
          simp only [Option.some.injEq, Prod.mk.injEq] at he
          obtain ⟨rfl, rfl⟩ := he
          obtain ⟨zv, hzr, _, hzl⟩ := zeroOf_run (m := m) (w := w) hz
          obtain ⟨arr', hfr, hvr⟩ := fill_run (ρ := ρ) parts.toList l z.cellsOf r zv.cells hl hf hzl hop
          refine still_pure (cv := .agg arr') (run_v ?_) (.agg _ _ hvr) rfl
          simp only [Instr.build, Sem.run_bind, hzr, Result.andThen_ok, run_und hu, run_sizeOf' hn', hmap]
          rw [hfr]
          simp
        · cases he
      · cases hc
    · cases hc
  · cases hc

theorem still_buildSlice {dst : Option Tmp} {ty : TypeId} {pos : String} {aft : Array Edge} {gd : Option (Nat × Bool)} {t : TypeId} {len : Nat} {parts : Array (Nat × Operand)} {op : AOp}
    (hc : cOp P vt ds (.buildSlice t len parts) = some op) (he : aop op rs vs h = some (v, h')) (hcr : CR m h w) (hop : Ops P m vt ds rs vs ρ (parts.toList.map (·.2))) :
    StillRun P m h w ρ ⟨dst, .buildSlice t len parts, ty, pos, aft, gd⟩ v h' := by
  simp only [cOp] at hc
  split at hc
  · rename_i e hu
    split at hc
    · rename_i n z hn hz
      split at hc
      · rename_i hcond
        obtain ⟨hle, hzlen⟩ := hcond
        split at hc
        · rename_i l hl
          injection hc with hc; subst hc
          simp only [aop] at he
          split at he
          · rename_i r hf
            simp only [Option.some.injEq, Prod.mk.injEq] at he
            obtain ⟨rfl, rfl⟩ := he
            obtain ⟨zv, hzr, _, hzl⟩ := zeroOf_run (m := m) (w := w) hz
            have hrep := rep_VRL (n := len) hzl hzlen
            obtain ⟨arr', hfr, hvr⟩ := fill_run (ρ := ρ) parts.toList l (rep len z.cellsOf) r _ hl hf hrep hop
            have hsz : arr'.size = len * (n + 1) := by
              have h1 := hvr.length
              have h2 : r.length = (rep len z.cellsOf).length := fill_length hf
              rw [rep_length, hzlen] at h2
              simp at h1; omega
            refine ⟨.slice (some ⟨w.heap.size, 0, none⟩) len len, _, _, run_v (w' := pushW w (.cells arr' e)) ?_, still_row (cap := len) hcr hvr ⟨by rw [hsz]; exact Nat.le_refl _, fun _ => by have := hvr.length; simp at this; omega⟩
              (vr_newS len len (.k len) len rfl (Nat.le_refl _))⟩
            have hmap : (parts.map fun (i, x) => (i, ρ x)).toList = parts.toList.map fun (i, x) => (i, ρ x) := by simp
            have hsmall : ¬ len * (n + 1) > 2 ^ 24 := by simpa using hle
            by_cases hl0 : len * (n + 1) = 0
            · have hlen0 : len = 0 := by rcases Nat.mul_eq_zero.1 hl0 with h1 | h1 <;> omega
              subst hlen0
              simp only [Instr.buildSlice, Sem.run_bind, run_und hu, Result.andThen_ok, run_sizeOf' hn, if_neg hsmall, hmap]
              have : (Array.range (0 * (n + 1))).map ((#[] : Array Value)[· % (#[] : Array Value).size]!) = (Array.range (0 * (n + 1))).map (zv.cells[· % zv.cells.size]!) := by simp
              simp only [Nat.zero_mul, if_true, Sem.run_pure, Result.andThen_ok] at this hfr ⊢
              simp only [this, hfr, Sem.run_bind, run_newRow', Result.andThen_ok, Sem.run_pure]
            · simp only [Instr.buildSlice, Sem.run_bind, run_und hu, Result.andThen_ok, run_sizeOf' hn, if_neg hsmall, hmap, if_neg hl0, hzr, Sem.run_pure, hfr, run_newRow']
          · cases he
        · cases hc
      · cases hc
    · cases hc
  · cases hc
where
  fill_length {rs vs c l : List AV} {ps : List (Nat × Nat × AO)} (h : fill rs vs c ps = some l) : l.length = c.length := by
    induction ps generalizing c with
    | nil => simp only [fill, Option.some.injEq] at h; rw [h]
    | cons p ps ih =>
      obtain ⟨off, size, x⟩ := p
      simp only [fill] at h
      split at h
      · cases h
      · split at h
        · rename_i c' _ hs
          rw [ih h, (splice_eq hs).2.1]
        · cases h

/-- The kind of type that an equality of kind kd is of. -/
def EqKind (P : Program) (kd : Nat) (d : TypeDesc) : Prop :=
  (kd = 0 ∧ d = .bool) ∨ (kd = 1 ∧ ∃ e n, d = .pointer e ∧ szOf P e = some (n + 1)) ∨ (kd = 2 ∧ ∃ e, d = .slice e) ∨ (kd = 3 ∧ ∃ k e, d = .map k e) ∨ (kd = 4 ∧ ∃ a b c, d = .func a b c) ∨ (kd = 5 ∧ ∃ ms, d = .interface ms)
/-- Two values that are no numbers, texts, structs: == asks by the type; no guard stands ahead of it. -/
def Plain2 (cx cy : Value) : Prop :=
  (∀ (t : TypeId), binOp .eql t cx cy = (do pure (.bool (← Op.equal t cx cy)))) ∧ (∀ (t : TypeId), binOp .neq t cx cy = (do pure (.bool (!(← Op.equal t cx cy))))) ∧
  ((∃ cs ds, cx = .agg cs ∧ cy = .agg ds) → False)
theorem eq_run {kd : Nat} {x y : AV} {cx cy : Value} {r : Bool} {t : TypeId} {d : TypeDesc} (e : aEq kd x y = some r) (hx : VR m x cx) (hy : VR m y cy) (hu : P.underlying t = some d) (hd : EqKind P kd d) :
    (Op.equal t cx cy).run P w = .ok r w ∧ Plain2 cx cy ∧ (cx = .nilIface ∧ cy = .nilIface → kd = 5) := by
  have hunf : ∀ a b : Value, Op.equal t a b = Op.equalIn (9999 + 1) t a b := fun _ _ => rfl
  have hp : Plain2 cx cy → True := fun _ => trivial
  unfold EqKind at hd
  unfold aEq at e
  split at e <;> first | (cases e; done) | skip
  case h_5 b o b' o' =>
    split at e
    · rename_i hb
      have := beq_iff.1 hb; subst this
      injection e with e; subst e
      obtain ⟨el, n, rfl, hn⟩ : ∃ el n, d = .pointer el ∧ szOf P el = some (n + 1) := by
        rcases hd with ⟨h0, _⟩ | ⟨_, h⟩ | ⟨h0, _⟩ | ⟨h0, _⟩ | ⟨h0, _⟩ | ⟨h0, _⟩ <;> first | exact h | cases h0
      cases hx with | p _ _ q hq => cases hy with | p _ _ q' hq' =>
      rw [hq] at hq'; injection hq' with hq'; subst hq'
      refine ⟨?_, ⟨fun _ => rfl, fun _ => rfl, by rintro ⟨_, _, h1, _⟩; cases h1⟩, by rintro ⟨h1, _⟩; cases h1⟩
      rw [hunf, Op.equalIn]
      simp only [Sem.run_bind, run_und hu, Result.andThen_ok, run_sizeOf' hn]
      simp only [ne_eq, Nat.add_one_ne_zero, not_false_eq_true, if_true, sameAddr, beq_self_eq_true, Sem.run_pure]
      congr 1
      rw [Bool.eq_iff_iff, beq_iff]
      simp
    · cases e
  all_goals injection e with e; subst e
  all_goals
    cases hx; cases hy
    refine ⟨?_, ⟨fun _ => rfl, fun _ => rfl, by rintro ⟨_, _, h1, _⟩; cases h1⟩, by first | (rintro ⟨h1, _⟩; cases h1; done) | (rintro ⟨_, h1⟩; cases h1; done) | exact fun _ => rfl⟩
    rcases hd with ⟨h0, hd⟩ | ⟨h0, e', n', hd, _⟩ | ⟨h0, e', hd⟩ | ⟨h0, k', e', hd⟩ | ⟨h0, a', b', c', hd⟩ | ⟨h0, ms, hd⟩ <;> first
      | (cases h0; done)
      | (subst hd; rw [hunf, Op.equalIn]; simp [run_und hu])

theorem eq_binOp {neg : Bool} {op : BinOp} {cx cy : Value} {t : TypeId} {r : Bool} (hop : op = .eql ∧ neg = false ∨ op = .neq ∧ neg = true) (hr : (Op.equal t cx cy).run P w = .ok r w) (hp : Plain2 cx cy) :
    (binOp op t cx cy).run P w = .ok (.bool (xor neg r)) w := by
  rcases hop with ⟨rfl, rfl⟩ | ⟨rfl, rfl⟩
  · rw [hp.1]; simp [hr]
  · rw [hp.2.1]; simp [hr]
theorem eq_guard {op : BinOp} {cx cy : Value} {t : TypeId} {x y : Operand} (hp : Plain2 cx cy) (hn : cx = .nilIface ∧ cy = .nilIface → isNilIface x = true ∨ isNilIface y = true) : (eqGuard op t x y cx cy).run P w = .ok () w := by
  have hagg := hp.2.2
  clear hp
  unfold eqGuard
  cases op <;> first | rfl | skip
  all_goals
    cases cx <;> first | rfl | skip
    · cases cy <;> first | rfl | skip
      have hn' := hn ⟨rfl, rfl⟩
      clear hn
      have hc : (∃ v, x = .const v) ∨ (∃ v, y = .const v) := by
        rcases hn' with h | h
        · left; unfold isNilIface at h; split at h
          · exact ⟨_, rfl⟩
          · cases h
        · right; unfold isNilIface at h; split at h
          · exact ⟨_, rfl⟩
          · cases h
      rcases hc with ⟨v, rfl⟩ | ⟨v, rfl⟩
      · simp
      · simp
    · cases cy <;> first | rfl | exact (hagg ⟨_, _, rfl, rfl⟩).elim

theorem still_binOp {dst : Option Tmp} {ty : TypeId} {pos : String} {aft : Array Edge} {gd : Option (Nat × Bool)} {bop : BinOp} {t ty2 : TypeId} {x y : Operand} {op : AOp}
    (hc : cBin P vt ds bop t x y = some op) (he : aop op rs vs h = some (v, h')) (hop : Ops P m vt ds rs vs ρ [x, y]) : StillRun P m h w ρ ⟨dst, .binOp bop t x y ty2, ty, pos, aft, gd⟩ v h' := by
  unfold cBin at hc
  split at hc
  case h_2 => cases hc
  rename_i a b ha hb
  have hx := hop x (by simp) a ha
  have hy := hop y (by simp) b hb
  -- what ends in .bin
  have kbin : aop (.bin bop a b) rs vs h = some (v, h') → StillRun P m h w ρ ⟨dst, .binOp bop t x y ty2, ty, pos, aft, gd⟩ v h' := by
    intro he
    obtain ⟨h1, rfl⟩ := ret1_some he
    obtain ⟨cv, hr, hv, hg⟩ := aBin_run (P := P) (w := w) t h1 hx hy
    exact still_pure (by simp [execOp, hg x y, hr]) hv rfl
  have keq : ∀ (neg : Bool) (kd : Nat) (d : TypeDesc), (bop = .eql ∧ neg = false ∨ bop = .neq ∧ neg = true) → P.underlying t = some d → EqKind P kd d → (kd = 5 → isNilIface x = true ∨ isNilIface y = true) →
      aop (.eq neg kd a b) rs vs h = some (v, h') → StillRun P m h w ρ ⟨dst, .binOp bop t x y ty2, ty, pos, aft, gd⟩ v h' := by
    intro neg kd d hneg hu hd hnil he
    obtain ⟨h1, rfl⟩ := ret1_some he
    cases hr : aEq kd (a.ev rs vs) (b.ev rs vs) with
    | none => rw [hr] at h1; cases h1
    | some r =>
      rw [hr] at h1; simp only [mapB, Option.some.injEq] at h1; subst h1
      obtain ⟨e1, e2, e3⟩ := eq_run (P := P) (w := w) hr hx hy hu hd
      exact still_pure (cv := .bool (xor neg r)) (by simp only [execOp, Sem.run_bind, eq_guard (x := x) (y := y) e2 (fun h => hnil (e3 h)), Result.andThen_ok, eq_binOp hneg e1 e2, Sem.run_pure]) (.b _) rfl
  have kagg : ∀ (neg : Bool) (ls : List Nat) (d : TypeDesc), (bop = .eql ∧ neg = false ∨ bop = .neq ∧ neg = true) → P.underlying t = some d → ((∃ fs, d = .struct fs) ∨ ∃ k e, d = .array k e) → leaves P 8 t = some ls →
      P.eqGuardType P.depth t = false → aop (.eqA neg ls a b) rs vs h = some (v, h') → StillRun P m h w ρ ⟨dst, .binOp bop t x y ty2, ty, pos, aft, gd⟩ v h' := by
    intro neg ls d hneg hu hd hl hgt he
    simp only [aop] at he
    split at he
    · rename_i la lb hla hlb
      obtain ⟨h1, rfl⟩ := ret1_some he
      cases hr : leavesEq ls la lb with
      | none => rw [hr] at h1; cases h1
      | some r =>
        rw [hr] at h1; simp only [mapB, Option.some.injEq] at h1; subst h1
        rw [hla] at hx; rw [hlb] at hy
        generalize hcx : ρ x = cx at hx
        generalize hcy : ρ y = cy at hy
        cases hx with | agg _ ca hca => cases hy with | agg _ cb hcb =>
        have hrun : (Op.equal t (.agg ca) (.agg cb)).run P w = .ok r w :=
          leaves_agg (n := 7) (d := 10000) hl (by rcases hd with ⟨fs, rfl⟩ | ⟨k, e, rfl⟩; exact .inl ⟨fs, hu⟩; exact .inr ⟨k, e, hu⟩) (by omega) hca hcb hr
        have hg : (eqGuard bop t x y (.agg ca) (.agg cb)).run P w = .ok () w := run_eqGuard_agg w bop t x y ca cb hgt
        refine still_pure (cv := .bool (xor neg r)) ?_ (.b _) rfl
        simp only [execOp, Sem.run_bind, hcx, hcy, hg, Result.andThen_ok]
        rcases hneg with ⟨rfl, rfl⟩ | ⟨rfl, rfl⟩
        · simp only [binOp, Sem.run_bind, hrun, Result.andThen_ok, Sem.run_pure, Bool.false_xor]
        · simp only [binOp, Sem.run_bind, hrun, Result.andThen_ok, Sem.run_pure, Bool.true_xor]
    · cases he
  have hcase : ∀ neg : Bool, (bop = .eql ∧ neg = false ∨ bop = .neq ∧ neg = true) → (match P.underlying t with
      | some (.int _) => some (.bin bop a b)
      | some .string => some (.bin bop a b)
      | some .bool => some (.eq neg 0 a b)
      | some (.pointer e) => match szOf P e with
        | some (_ + 1) => some (.eq neg 1 a b)
        | _ => none
      | some (.slice _) => some (.eq neg 2 a b)
      | some (.map _ _) => some (.eq neg 3 a b)
      | some (.func _ _ _) => some (.eq neg 4 a b)
      | some (.interface _) => if isNilIface x || isNilIface y then some (.eq neg 5 a b) else none
      | some (.struct _) => match leaves P 8 t with
        | some ls => if P.eqGuardType P.depth t then none else some (.eqA neg ls a b)
        | none => none
      | some (.array _ _) => match leaves P 8 t with
        | some ls => if P.eqGuardType P.depth t then none else some (.eqA neg ls a b)
        | none => none
      | _ => none : Option AOp) = some op → StillRun P m h w ρ ⟨dst, .binOp bop t x y ty2, ty, pos, aft, gd⟩ v h' := by
    intro neg hneg hc
    split at hc
    · injection hc with hc; subst hc; exact kbin he
    · injection hc with hc; subst hc; exact kbin he
    · rename_i hu; injection hc with hc; subst hc; exact keq neg 0 _ hneg hu (.inl ⟨rfl, rfl⟩) (by intro h; cases h) he
    · rename_i e hu
      split at hc
      · rename_i n hn; injection hc with hc; subst hc; exact keq neg 1 _ hneg hu (.inr (.inl ⟨rfl, e, n, rfl, hn⟩)) (by intro h; cases h) he
      · cases hc
    · rename_i e hu; injection hc with hc; subst hc; exact keq neg 2 _ hneg hu (.inr (.inr (.inl ⟨rfl, e, rfl⟩))) (by intro h; cases h) he
    · rename_i k e hu; injection hc with hc; subst hc; exact keq neg 3 _ hneg hu (.inr (.inr (.inr (.inl ⟨rfl, k, e, rfl⟩)))) (by intro h; cases h) he
    · rename_i p r' va hu; injection hc with hc; subst hc; exact keq neg 4 _ hneg hu (.inr (.inr (.inr (.inr (.inl ⟨rfl, p, r', va, rfl⟩))))) (by intro h; cases h) he
    · rename_i ms hu
      split at hc
      · rename_i hn; injection hc with hc; subst hc
        exact keq neg 5 _ hneg hu (.inr (.inr (.inr (.inr (.inr ⟨rfl, ms, rfl⟩))))) (fun _ => by simpa using hn) he
      · cases hc
    · rename_i fs hu
      split at hc
      · rename_i ls hl
        split at hc
        · cases hc
        · rename_i hg; injection hc with hc; subst hc
          exact kagg neg ls _ hneg hu (.inl ⟨fs, rfl⟩) hl (by simpa using hg) he
      · cases hc
    · rename_i k e hu
      split at hc
      · rename_i ls hl
        split at hc
        · cases hc
        · rename_i hg; injection hc with hc; subst hc
          exact kagg neg ls _ hneg hu (.inr ⟨k, e, rfl⟩) hl (by simpa using hg) he
      · cases hc
    · cases hc
  cases bop <;> first
    | exact hcase false (.inl ⟨rfl, rfl⟩) hc
    | exact hcase true (.inr ⟨rfl, rfl⟩) hc
    | (injection hc with hc; subst hc; exact kbin he)

/-! ### conversions -/

theorem firstCells_sl {h : AHeap} {ez n : Nat} {b o : Nat} {k : Nat} {c : ACap} {l : List AV} {cx : Value} (e : firstCells h ez n (.sl b o k c) = some l) (hcr : CR m h w) (hx : VR m (.sl b o k c) cx) (hnk : n ≤ k) :
    ∃ (cs : List Value) (a : Addr) (cp : Nat), cx = .slice (some a) k cp ∧ cs.length = n * ez ∧ VRL m l cs ∧ ∀ w' : World, w'.heap = w.heap → (loadCells a (n * ez)).run P w' = .ok cs.toArray w' := by
  cases hx with | sl _ _ _ _ q off hq hn ho =>
  unfold firstCells at e
  cases n with
  | zero =>
    simp only [Option.some.injEq] at e; subst e
    exact ⟨[], _, _, rfl, by simp, .nil, fun w' _ => by simp [loadCells, loadCellsFrom]⟩
  | succ n =>
    simp only at e
    obtain ⟨_, _, obj, hg, hor⟩ := hcr b q hq
    rw [hg] at e
    cases obj with
    | map => cases e
    | dead => cases e
    | cells cc st prev ez' =>
      simp only at e
      cases hor with | cells _ _ _ _ arr T fz hw hc _ =>
      obtain ⟨cs, hlen, hvrl, hcs⟩ := cells_of_sub e hc
      have hoff : off = ⟨q.blk, q.base + o, none⟩ := by
        rcases ho with ho | ho
        · exact ho
        · omega
      subst hoff
      refine ⟨cs, _, _, rfl, hlen, hvrl, fun w' hw' => ?_⟩
      have := run_loadCells_list (P := P) w' ⟨q.blk, q.base + o, none⟩ cs (fun j x hx => by rw [Addr.add_lit, cell_of (by rw [hw']; exact hw)]; exact hcs j x hx)
      rw [hlen] at this; exact this
theorem bytesOf_run {l : List AV} {t : List UInt8} {cs : List Value} (e : bytesOf l = some t) (hv : VRL m l cs) : ∃ ns : List Int, cs = ns.map (Value.int .u8) ∧ t = ns.map (fun n => UInt8.ofNat n.toNat) := by
  induction l generalizing t cs with
  | nil => cases hv; simp only [bytesOf, Option.some.injEq] at e; subst e; exact ⟨[], rfl, rfl⟩
  | cons x l ih =>
    cases hv with | cons _ c _ r hx hl =>
    unfold bytesOf at e
    split at e
    · rename_i heq; cases heq
    · rename_i n l' heq
      injection heq with h1 h2; subst h1; subst h2
      split at e
      · rename_i r' hr
        injection e with e; subst e
        cases hx
        obtain ⟨ns, h1, h2⟩ := ih hr hl
        exact ⟨n :: ns, by simp [h1], by simp [h2]⟩
      · cases e
    · cases e
theorem foldl_push (ns : List Int) : ∀ b : ByteArray, (ns.foldl (fun r n => r.push (UInt8.ofNat n.toNat)) b).data.toList = b.data.toList ++ ns.map (fun n => UInt8.ofNat n.toNat) := by
  induction ns with
  | nil => intro b; simp
  | cons n ns ih => intro b; simp only [List.foldl_cons, ih, List.map_cons]; simp [ByteArray.push]

theorem byteCells_VRL (l : List UInt8) : VRL m (byteCells l) (l.map fun b => Value.int .u8 b.toNat) := by
  induction l with
  | nil => exact .nil
  | cons x l ih => exact .cons _ _ _ _ (.i _ _) ih

theorem still_convert {dst : Option Tmp} {ty : TypeId} {pos : String} {aft : Array Edge} {gd : Option (Nat × Bool)} {src tt : TypeId} {x : Operand} {op : AOp}
    (hc : cConvert P vt ds src tt x = some op) (he : aop op rs vs h = some (v, h')) (hcr : CR m h w) (hop : Ops P m vt ds rs vs ρ [x]) : StillRun P m h w ρ ⟨dst, .convert src tt x, ty, pos, aft, gd⟩ v h' := by
  unfold cConvert at hc
  split at hc
  · cases hc
  rename_i a ha
  have hx := hop x (by simp) a ha
  split at hc
  · rename_i k0 k hs hd
    injection hc with hc; subst hc
    simp only [aop] at he
    split at he
    · rename_i k' n hn
      simp only [Option.some.injEq, Prod.mk.injEq] at he
      obtain ⟨rfl, rfl⟩ := he
      rw [hn] at hx
      generalize hcx : ρ x = cx at hx
      cases hx
      exact still_pure (cv := .int k (k.wrap n)) (by simp [execOp, hcx, convert, run_und hs, run_und hd, Conv.intToInt]) (by rw [awrap_eq]; exact .i _ _) rfl
    · cases he
  · rename_i hs hd
    injection hc with hc; subst hc
    simp only [aop] at he
    split at he
    · rename_i t ht
      simp only [Option.some.injEq, Prod.mk.injEq] at he
      obtain ⟨rfl, rfl⟩ := he
      rw [ht] at hx
      generalize hcx : ρ x = cx at hx
      have hx' := hx
      cases hx with | s _ tb _ =>
      exact still_pure (cv := .string tb) (by simp [execOp, hcx, convert, run_und hs, run_und hd]) hx' rfl
    · cases he
  · rename_i e hs hd
    split at hc
    · rename_i hue
      injection hc with hc; subst hc
      simp only [aop] at he
      split at he
      · rename_i t ht
        simp only [Option.some.injEq, Prod.mk.injEq] at he
        obtain ⟨rfl, rfl⟩ := he
        rw [ht] at hx
        generalize hcx : ρ x = cx at hx
        cases hx with | s _ tb etb =>
        subst etb
        have hq : (Question.appendCap tb.size 0 e).forced = false := rfl
        let cap := (Question.appendCap tb.size 0 e).cut (w.tape w.drawn (.appendCap tb.size 0 e))
        have hcap : tb.size ≤ cap := by show tb.size ≤ tb.size + _; omega
        let cells : Array Value := tb.data.map (fun b => Value.int .u8 b.toNat) ++ Array.replicate (cap - tb.size) (.int .u8 0)
        have hcsz : cells.size = cap := by simp [cells]; have : tb.data.size = tb.size := rfl; omega
        let w1 : World := { w with drawn := w.drawn + 1 }
        have hfin : (pushW w1 (.cells cells e)).freeze ⟨w.heap.size, cells.size, none⟩ 1 = { pushW w1 (.cells cells e (cells.size, cells.size + 1)) with drawn := w.drawn + 1 } := by
          simp only [World.freeze, Nat.one_ne_zero, if_false, pushW]
          congr 1
          apply Array.ext_getElem?
          intro k
          rw [Array.getElem?_modify]
          by_cases ek : w.heap.size = k
          · subst ek
            rw [if_pos rfl]
            simp [w1]
          · rw [if_neg ek, Array.getElem?_push, Array.getElem?_push]
            simp only [w1, if_neg (Ne.symm ek)]
        refine ⟨.slice (some ⟨w.heap.size, 0, none⟩) tb.size cap, { pushW w1 (.cells cells e (cells.size, cells.size + 1)) with drawn := w.drawn + 1 }, m.upd h.n ⟨w.heap.size, 0, cap, true⟩, ?_, ?_⟩
        · simp only [execOp, hcx]
          refine run_v ?_
          simp only [convert, Sem.run_bind, run_und hs, run_und hd, run_und hue, Result.andThen_ok, Conv.stringToBytes, run_choose, hq, Bool.false_eq_true, if_false]
          have hnr : (newRow e (tb.data.map (fun b => Value.int .u8 b.toNat) ++ Array.replicate (cap - tb.size) (.int .u8 0))).run P w1 = .ok ⟨w.heap.size, 0, none⟩ (pushW w1 (.cells cells e)) := run_newRow' (w := w1) e cells
          have hmk : (markStringish ⟨w.heap.size, 0, none⟩).run P (pushW w1 (.cells cells e)) = .ok () ((pushW w1 (.cells cells e)).freeze ⟨w.heap.size, cells.size, none⟩ 1) := by
            have hsh : (pushW w1 (.cells cells e)).shape? w.heap.size = some (e, cells.size) := by
              have := pushW_get w1 (.cells cells e)
              simp only [World.shape?]
              rw [show w.heap.size = w1.heap.size from rfl, this]
            simp [markStringish, hsh]
          show ((newRow e (tb.data.map (fun b => Value.int .u8 b.toNat) ++ Array.replicate (cap - tb.size) (.int .u8 0))).run P w1).andThen _ = _
          rw [hnr]
          simp only [Result.andThen_ok, hmk, hfin, Sem.run_pure]
          rfl
        · refine .made (.cells (byteCells tb.data.toList) .rw [] 1) cap rfl ⟨rfl, rfl, rfl, by simp [pushW, w1], fun r hr => by simp only [pushW, w1]; rw [Array.getElem?_push, if_neg (by omega)]⟩ (by simp [pushW, w1]) rfl ?_ trivial rfl ?_
          · refine .cells _ _ _ _ cells e (cells.size, cells.size + 1) ?_ ?_ fun _ => ⟨?_, by simp [hcsz], fun _ => ?_, rfl⟩
            · exact pushW_get w1 (.cells cells e (cells.size, cells.size + 1))
            · intro i y hy
              obtain ⟨c, hc', hr⟩ := (byteCells_VRL (m := m.upd h.n ⟨w.heap.size, 0, cap, true⟩) tb.data.toList).get (by rw [get?_eq]; exact hy)
              refine ⟨c, ?_, hr⟩
              have hi : i < tb.data.size := by
                rcases Nat.lt_or_ge i tb.data.size with h' | h'
                · exact h'
                · rw [List.getElem?_eq_none (by simp; exact h')] at hc'; cases hc'
              simp only [Nat.zero_add, cells]
              rw [Array.getElem?_append_left (by simpa using hi)]
              simpa using hc'
            · intro i hi hh; omega
            · have := (byteCells_VRL (m := m) tb.data.toList).length
              rw [this]; simp; exact hcap
          · have e1 : tb.data.toList.length = tb.size := by simp
            rw [e1]
            exact vr_newS tb.size cap (.u 0) cap rfl hcap
      · cases he
    · cases hc
  · rename_i e hs hd
    split at hc
    · rename_i hue
      injection hc with hc; subst hc
      simp only [aop] at he
      split at he
      · rename_i hn
        simp only [Option.some.injEq, Prod.mk.injEq] at he
        obtain ⟨rfl, rfl⟩ := he
        rw [hn] at hx
        generalize hcx : ρ x = cx at hx
        cases hx
        exact still_pure (cv := .string .empty) (by simp [execOp, hcx, convert, run_und hs, run_und hd, run_und hue, Conv.bytesToString]) (.s _ _ rfl) rfl
      · rename_i b o n c hn
        split at he
        · rename_i l hl
          split at he
          · rename_i t ht
            simp only [Option.some.injEq, Prod.mk.injEq] at he
            obtain ⟨rfl, rfl⟩ := he
            rw [hn] at hx
            obtain ⟨cs, ad, cp, hcx, hlen, hvrl, hload⟩ := firstCells_sl (P := P) hl hcr hx (Nat.le_refl _)
            obtain ⟨ns, h1, h2⟩ := bytesOf_run ht hvrl
            have hrun := run_bytesToString (P := P) w ad n cp ns (by rw [← h1]; simpa using hload w rfl)
            exact still_pure (cv := .string (ns.foldl (fun r n => r.push (UInt8.ofNat n.toNat)) ByteArray.empty)) (by simp [execOp, hcx, convert, run_und hs, run_und hd, run_und hue, hrun])
              (.s _ _ (by rw [foldl_push, h2]; rfl)) rfl
          · cases he
        · cases he
      · cases he
    · cases hc
  · cases hc
end
end Go.Av
