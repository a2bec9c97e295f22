/- Operations that act on nothing that is there: what the abstract machine says of them is what the model does. First part: values. -/
import Derived.Test.YtgnpkjfaekimcaaDoorAvMem
set_option linter.unusedVariables false
set_option linter.unusedSimpArgs false
set_option linter.unusedSectionVars false
namespace Go.Av
section
variable {P : Program} {m : Mp} {w : World}

theorem VR.cells {x : AV} {c : Value} {l : List AV} (h : VR m x c) (hx : x.cells? = some l) : VRL m l c.cells.toList := by
  have h' := h
  cases h <;> simp only [AV.cells?, Option.some.injEq, reduceCtorEq] at hx <;> subst hx <;> simp only [Value.cells] <;> first
    | assumption
    | exact .cons _ _ _ _ h' .nil
theorem VR.cells' {x : AV} {c : Value} (h : VR m x c) (hx : okCells x.cellsOf = true) : VRL m x.cellsOf c.cells.toList := by
  cases x <;> first
    | exact h.cells rfl
    | (simp [AV.cellsOf, okCells, AV.okCell] at hx; done)

/-! ### struct and array literals -/

theorem foldl_put (l : List Value) : ∀ (arr : Array Value) (off k : Nat), (l.zipIdx k).foldl (fun cs (c, j) => cs.setIfInBounds (off + j) c) arr = putAll arr (off + k) l := by
  induction l with
  | nil => intro arr off k; rfl
  | cons v l ih => intro arr off k; simp only [List.zipIdx_cons, List.foldl_cons, putAll]; rw [ih]; rfl
theorem VRL.splice {c vs r : List AV} {arr : Array Value} {cs : List Value} {off : Nat} (h : VRL m c arr.toList) (hv : VRL m vs cs) (hs : splice c off vs = some r) :
    VRL m r (putAll arr off cs).toList := by
  obtain ⟨h1, h2, h3⟩ := splice_eq hs
  have hl : vs.length = cs.length := hv.length
  have hc : c.length = arr.size := by have := h.length; simpa using this
  refine .of_get (by rw [h2, hc]; simp [putAll_size]) fun i x hx => ?_
  rw [get?_eq, h3 i] at hx
  by_cases hne : cs = []
  · have hvs : vs = [] := by rw [hne] at hl; exact List.eq_nil_of_length_eq_zero hl
    subst hne; subst hvs
    rw [if_neg (by simp only [List.length_nil]; omega)] at hx
    obtain ⟨u, hu, hr⟩ := h.get (by rw [get?_eq]; exact hx)
    exact ⟨u, by simpa [putAll] using hu, hr⟩
  · have hfit : off + cs.length ≤ arr.size := by
      have hvs : vs ≠ [] := by intro e0; rw [e0] at hl; exact hne (List.eq_nil_of_length_eq_zero hl.symm)
      have := h1.resolve_left hvs
      omega
    rw [Array.getElem?_toList, putAll_get cs arr _ hfit]
    by_cases hi : off ≤ i ∧ i < off + vs.length
    · rw [if_pos hi] at hx
      obtain ⟨u, hu, hr⟩ := hv.get (by rw [get?_eq]; exact hx)
      exact ⟨u, by rw [if_pos (by omega)]; exact hu, hr⟩
    · rw [if_neg hi] at hx
      obtain ⟨u, hu, hr⟩ := h.get (by rw [get?_eq]; exact hx)
      exact ⟨u, by rw [if_neg (by omega)]; simpa using hu, hr⟩

theorem fill_run {rs vs : List AV} {vt : List Nat} {ds : List (Option Nat)} {place : Nat → Option (Nat × Nat)} {ρ : Operand → Value} :
    ∀ (parts : List (Nat × Operand)) (ps : List (Nat × Nat × AO)) (c l : List AV) (arr : Array Value), cParts P vt ds place parts = some ps → fill rs vs c ps = some l → VRL m c arr.toList →
      (∀ x ∈ parts.map (·.2), ∀ a, cOperand P vt ds x = some a → VR m (a.ev rs vs) (ρ x)) →
      ∃ arr', Instr.fill place arr (parts.map fun (i, x) => (i, ρ x)) = some arr' ∧ VRL m l arr'.toList := by
  intro parts
  induction parts with
  | nil =>
    intro ps c l arr hc hf hv _
    simp only [cParts, Option.some.injEq] at hc; subst hc
    simp only [fill, Option.some.injEq] at hf; subst hf
    exact ⟨arr, rfl, hv⟩
  | cons p parts ih =>
    intro ps c l arr hc hf hv hop
    obtain ⟨i, x⟩ := p
    simp only [cParts] at hc
    split at hc
    · rename_i off size a r hpl ha hr
      injection hc with hc; subst hc
      simp only [fill] at hf
      split at hf
      · cases hf
      · rename_i lx hlx
        split at hf
        · rename_i c' hb hsp
          have hx := hop x (by simp) a ha
          have hcells := hx.cells hlx
          have hsz : (ρ x).cells.size = size := by
            have h1 := hcells.length
            have h2 := beq_iff.1 hb
            simp only [len_] at h2
            simp at h1; omega
          obtain ⟨h1, h2, h3⟩ := splice_eq hsp
          have hroom : ¬ ((ρ x).cells.size ≠ size ∨ off + (ρ x).cells.size > arr.size) ∨ (ρ x).cells.size = 0 := by
            rcases h1 with h1 | h1
            · right; have := hcells.length; rw [h1] at this; simpa using this.symm
            · left
              have e1 := hcells.length
              have e2 := hv.length
              simp at e1 e2
              omega
          have hv' := VRL.splice hv hcells hsp
          by_cases hbad : (ρ x).cells.size ≠ size ∨ off + (ρ x).cells.size > arr.size
          · -- nothing is laid beyond the end: then the model says none; it is not so
            exfalso
            rcases hroom with h | h
            · exact h hbad
            · rcases hbad with h' | h'
              · exact h' hsz
              · -- off is beyond the end and nothing is laid
                have e2 := hv.length
                have hnil : lx = [] := by
                  have e3 : lx.length = (ρ x).cells.size := by simpa using hcells.length
                  rw [h] at e3
                  exact List.eq_nil_of_length_eq_zero e3
                subst hnil
                have : off ≤ c.length := splice_nil_le hsp
                simp at e2; omega
          · obtain ⟨arr', hfill, hvr⟩ := ih r c' l _ hr hf hv' (fun y hy b hb => hop y (by simp at hy ⊢; exact .inr hy) b hb)
            refine ⟨arr', ?_, hvr⟩
            have efold : (ρ x).cells.zipIdx.foldl (fun cs (c, j) => cs.setIfInBounds (off + j) c) arr = putAll arr off (ρ x).cells.toList := by
              rw [← Array.foldl_toList, Array.toList_zipIdx, foldl_put]; rfl
            have hb' : (decide ((ρ x).cells.size ≠ size) || decide (off + (ρ x).cells.size > arr.size)) = false := by simpa using hbad
            simp only [List.map_cons, Instr.fill, hpl, hb', Bool.false_eq_true, if_false, efold]
            exact hfill
        · cases hf
    · cases hc
where
  splice_nil_le {c r : List AV} {o : Nat} (h : splice c o [] = some r) : o ≤ c.length := by
    induction c generalizing o r with
    | nil => cases o with
      | zero => simp
      | succ o => simp [splice] at h
    | cons x c ih => cases o with
      | zero => simp
      | succ o =>
        simp only [splice] at h
        cases hs : splice c o [] with
        | none => rw [hs] at h; cases h
        | some r' => have := ih hs; simp; omega

theorem ofScalar_VR {v : Value} {x : AV} (h : ofScalar v = some x) : VR m x v := by
  unfold ofScalar at h
  split at h <;> first
    | (injection h with h; subst h; first | exact .s _ _ rfl | constructor)
    | (cases h; done)
    | skip
  split at h
  · rename_i hf hc
    injection h with h; subst h
    exact .f _ _ _ _ _ (by rw [hf]; exact .nil) (by rw [hc]; exact .nil)
  · cases h
theorem ofScalars_VRL : ∀ {l : List Value} {x : List AV}, ofScalars l = some x → VRL m x l
  | [], x, h => by simp only [ofScalars, Option.some.injEq] at h; subst h; exact .nil
  | v :: l, x, h => by
    simp only [ofScalars] at h
    split at h
    · rename_i a r ha hr; injection h with h; subst h
      exact .cons _ _ _ _ (ofScalar_VR ha) (ofScalars_VRL hr)
    · cases h
theorem ofValue_VR {v : Value} {x : AV} (h : ofValue v = some x) : VR m x v := by
  unfold ofValue at h
  split at h
  · split at h
    · rename_i hl; injection h with h; subst h; exact .agg _ _ (ofScalars_VRL hl)
    · cases h
  · split at h
    · rename_i hl; injection h with h; subst h; exact .tup _ _ (ofScalars_VRL hl)
    · cases h
  · exact ofScalar_VR h
theorem ofValue_ne_und {v : Value} {x : AV} (h : ofValue v = some x) : x ≠ .und := by
  rintro rfl
  unfold ofValue at h
  split at h
  · split at h <;> cases h
  · split at h <;> cases h
  · unfold ofScalar at h
    split at h <;> first | (cases h; done) | skip
    split at h <;> cases h
theorem cells_of_ne {x : AV} (h : x ≠ .und) : x.cells? = some x.cellsOf := by cases x <;> first | rfl | exact absurd rfl h
theorem zeroOf_run {t : TypeId} {z : AV} (h : zeroOf P t = some z) : ∃ zv, (zeroValue t).run P w = .ok zv w ∧ VR m z zv ∧ VRL m z.cellsOf zv.cells.toList := by
  unfold zeroOf at h
  split at h
  · rename_i i hi
    split at h
    · rename_i zv hz
      have hv : VR m z zv := ofValue_VR h
      exact ⟨zv, by simp [zeroValue, typeInfo, hi, hz], hv, hv.cells (cells_of_ne (ofValue_ne_und h))⟩
    · cases h
  · cases h

/-! ### pure values -/

theorem aBin_run {op : BinOp} {x y v : AV} {cx cy : Value} (t : TypeId) (h : aBin op x y = some v) (hx : VR m x cx) (hy : VR m y cy) :
    ∃ cv, (binOp op t cx cy).run P w = .ok cv w ∧ VR m v cv ∧ (∀ a b : Operand, (eqGuard op t a b cx cy).run P w = .ok () w) := by
  have key : (∀ cs ds : Array Value, ¬ (cx = .agg cs ∧ cy = .agg ds)) → ¬ (cx = .nilIface ∧ cy = .nilIface) → ∀ a b : Operand, (eqGuard op t a b cx cy).run P w = .ok () w := by
    intro h1 h2 a b
    unfold eqGuard
    cases op <;> try rfl
    all_goals
      simp only
      cases cx <;> cases cy <;> first | rfl | exact absurd ⟨rfl, rfl⟩ (h1 _ _) | exact absurd ⟨rfl, rfl⟩ h2
  unfold aBin at h
  split at h
  · rename_i k a k' b
    cases hx; cases hy
    have hg := key (by rintro _ _ ⟨h1, _⟩; cases h1) (by rintro ⟨h1, _⟩; cases h1)
    split at h
    · obtain ⟨n, rfl, hr⟩ := run_shift (P := P) (w := w) .shl k k' a b v h
      exact ⟨_, by simpa [binOp] using hr, .i _ _, hg⟩
    · obtain ⟨n, rfl, hr⟩ := run_shift (P := P) (w := w) .shr k k' a b v h
      exact ⟨_, by simpa [binOp] using hr, .i _ _, hg⟩
    · split at h
      · rename_i hk
        have := (kEq_iff k k').1 hk; subst this
        rcases run_int (P := P) (w := w) op k a b v h t with ⟨n, rfl, hr⟩ | ⟨x, rfl, hr⟩
        · exact ⟨_, hr, .i _ _, hg⟩
        · exact ⟨_, hr, .b _, hg⟩
      · cases h
  · rename_i a b
    cases hx with | s _ ta ea => cases hy with | s _ tb eb =>
    subst ea; subst eb
    have hg := key (by rintro _ _ ⟨h1, _⟩; cases h1) (by rintro ⟨h1, _⟩; cases h1)
    rcases run_str (P := P) (w := w) op ta tb v h t with ⟨l, rfl, z, hz, hr⟩ | ⟨x, rfl, hr⟩
    · exact ⟨_, hr, .s _ _ hz, hg⟩
    · exact ⟨_, hr, .b _, hg⟩
  · cases h

theorem aUn_run {op : UnOp} {x v : AV} {cx : Value} (h : aUn op x = some v) (hx : VR m x cx) : ∃ cv, (Op.unary op cx).run P w = .ok cv w ∧ VR m v cv := by
  unfold aUn at h
  split at h
  · cases hx; injection h with h; subst h; exact ⟨_, rfl, .b _⟩
  · rename_i k n
    cases hx; injection h with h; subst h
    exact ⟨.int k (k.wrap (0 - n)), rfl, by rw [awrap_eq]; exact .i _ _⟩
  · rename_i k n
    cases hx; injection h with h; subst h
    refine ⟨_, rfl, ?_⟩
    have hlt : (BitVec.ofInt k.bits (if k.signed then -1 else k.max) ^^^ BitVec.ofInt k.bits n).toNat < kMod k := by rw [kMod_eq]; exact BitVec.isLt _
    have e : kMod k - 1 - toU k n = (BitVec.ofInt k.bits (if k.signed then -1 else k.max) ^^^ BitVec.ofInt k.bits n).toNat := by
      have h1 : BitVec.ofInt k.bits (if k.signed then -1 else k.max) = BitVec.allOnes k.bits := by cases k <;> decide
      rw [h1, BitVec.allOnes_xor, BitVec.toNat_not, ofInt_toNat, kMod_eq]
    rw [e, ofU_eq k _ hlt]
    exact .i _ _
  · cases h

theorem bound_run {x : AV} {cx : Value} {y n : Nat} (code : BoundsCode) (h : bound x y = some n) (hx : VR m x cx) : (Instr.sliceBound cx y code).run P w = .ok n w ∧ n ≤ y := by
  unfold bound at h
  split at h
  · rename_i k j
    cases hx
    split at h
    · rename_i hb; injection h with h; subst h
      have := ble_iff.1 hb
      refine ⟨?_, this⟩
      simp only [Instr.sliceBound, asIntOf, Sem.run_bind, Sem.run_pure, Result.andThen_ok]
      rw [if_pos ⟨by simp, by simpa using this⟩]
      rfl
    · cases h
  · cases h
/-- Bounds that an operand gives, or none. -/
def OVR (m : Mp) : Option AV → Option Value → Prop
  | none, none => True
  | some x, some c => VR m x c
  | _, _ => False
theorem bounds_run {isS : Bool} {len cap : Nat} {lo hi mx : Option AV} {clo chi cmx : Option Value} {l h m' : Nat} (e : bounds len cap lo hi mx = some (l, h, m')) (hl : OVR m lo clo) (hh : OVR m hi chi)
    (hm : OVR m mx cmx) (hle : len ≤ cap) : (Instr.sliceBounds isS len cap clo chi cmx).run P w = .ok (l, h, m') w ∧ l ≤ h ∧ h ≤ m' ∧ m' ≤ cap := by
  have key : ∀ (x : Option AV) (cx : Option Value), OVR m x cx → (x = none ∧ cx = none) ∨ ∃ a c, x = some a ∧ cx = some c ∧ VR m a c := by
    intro x cx hx
    cases x <;> cases cx <;> simp only [OVR] at hx
    · exact .inl ⟨rfl, rfl⟩
    · exact .inr ⟨_, _, rfl, rfl, hx⟩
  unfold bounds at e
  rcases key _ _ hm with ⟨rfl, rfl⟩ | ⟨xm, cm, rfl, rfl, vm⟩
  · simp only at e
    rcases key _ _ hh with ⟨rfl, rfl⟩ | ⟨xh, ch, rfl, rfl, vh⟩
    · simp only at e
      rcases key _ _ hl with ⟨rfl, rfl⟩ | ⟨xl, cl, rfl, rfl, vl⟩
      · simp only [Option.some.injEq, Prod.mk.injEq] at e
        obtain ⟨rfl, rfl, rfl⟩ := e
        exact ⟨by simp [Instr.sliceBounds], Nat.zero_le _, hle, Nat.le_refl _⟩
      · dsimp only at e
        cases hb : bound xl len with
        | none => rw [hb] at e; cases e
        | some n =>
          rw [hb] at e; simp only [Option.some.injEq, Prod.mk.injEq] at e
          obtain ⟨rfl, rfl, rfl⟩ := e
          obtain ⟨hr, hle'⟩ := bound_run (P := P) (w := w) .sliceB hb vl
          exact ⟨by simp [Instr.sliceBounds, hr], hle', hle, Nat.le_refl _⟩
    · dsimp only at e
      cases hb : bound xh cap with
      | none => rw [hb] at e; cases e
      | some nh =>
        rw [hb] at e; simp only at e
        obtain ⟨hrh, hleh⟩ := bound_run (P := P) (w := w) (if isS then .sliceAcap else .sliceAlen) hb vh
        rcases key _ _ hl with ⟨rfl, rfl⟩ | ⟨xl, cl, rfl, rfl, vl⟩
        · simp only [Option.some.injEq, Prod.mk.injEq] at e
          obtain ⟨rfl, rfl, rfl⟩ := e
          exact ⟨by simp [Instr.sliceBounds, hrh], Nat.zero_le _, hleh, Nat.le_refl _⟩
        · dsimp only at e
          cases hb2 : bound xl nh with
          | none => rw [hb2] at e; cases e
          | some n =>
            rw [hb2] at e; simp only [Option.some.injEq, Prod.mk.injEq] at e
            obtain ⟨rfl, rfl, rfl⟩ := e
            obtain ⟨hr, hle'⟩ := bound_run (P := P) (w := w) .sliceB hb2 vl
            exact ⟨by simp [Instr.sliceBounds, hrh, hr], hle', hleh, Nat.le_refl _⟩
  · dsimp only at e
    cases hbm : bound xm cap with
    | none => rw [hbm] at e; cases e
    | some nm =>
      rw [hbm] at e; simp only at e
      obtain ⟨hrm, hlem⟩ := bound_run (P := P) (w := w) (if isS then .slice3Acap else .slice3Alen) hbm vm
      rcases key _ _ hh with ⟨rfl, rfl⟩ | ⟨xh, ch, rfl, rfl, vh⟩
      · cases e
      · dsimp only at e
        cases hb : bound xh nm with
        | none => rw [hb] at e; cases e
        | some nh =>
          rw [hb] at e; simp only at e
          obtain ⟨hrh, hleh⟩ := bound_run (P := P) (w := w) .slice3B hb vh
          rcases key _ _ hl with ⟨rfl, rfl⟩ | ⟨xl, cl, rfl, rfl, vl⟩
          · simp only [Option.some.injEq, Prod.mk.injEq] at e
            obtain ⟨rfl, rfl, rfl⟩ := e
            exact ⟨by simp [Instr.sliceBounds, hrm, hrh], Nat.zero_le _, hleh, hlem⟩
          · dsimp only at e
            cases hb2 : bound xl nh with
            | none => rw [hb2] at e; cases e
            | some n =>
              rw [hb2] at e; simp only [Option.some.injEq, Prod.mk.injEq] at e
              obtain ⟨rfl, rfl, rfl⟩ := e
              obtain ⟨hr, hle'⟩ := bound_run (P := P) (w := w) .slice3C hb2 vl
              exact ⟨by simp [Instr.sliceBounds, hrm, hrh, hr], hle', hleh, hlem⟩
theorem aIndex_run {i : AV} {ci : Value} {n j : Nat} (h : aIndex i n = some j) (hi : VR m i ci) : ∃ k, ci = .int k j ∧ j < n := by
  unfold aIndex at h
  split at h
  · rename_i k x
    cases hi
    split at h
    · rename_i hb; injection h with h; subst h; exact ⟨k, rfl, blt_iff.1 hb⟩
    · cases h
  · cases h
theorem aFld_part {t : TypeId} {off : Nat} {n : Option Nat} {l : List AV} {v : AV} {cs : Array Value} (ht : aggOf P t = some n) (h : aFld off n (.agg l) = some v) (hl : VRL m l cs.toList) :
    ∃ cv, (part t cs off).run P w = .ok cv w ∧ VR m v cv := by
  obtain ⟨hagg, hsz⟩ := run_isAgg (w := w) ht
  cases n with
  | none =>
    simp only [aFld] at h
    obtain ⟨c, hc, hr⟩ := hl.get h
    refine ⟨c, ?_, hr⟩
    simp [part, hagg, show cs[off]? = some c by simpa using hc]
  | some k =>
    simp only [aFld] at h
    split at h
    · rename_i r hs
      injection h with h; subst h
      obtain ⟨h1, h2⟩ := sub_eq.1 hs
      have hk := run_sizeOf' (w := w) (hsz k rfl)
      refine ⟨.agg (cs.extract off (off + k)), ?_, .agg _ _ (.of_get ?_ ?_)⟩
      · simp [part, hagg, hk]
      · have e := hl.length
        simp at e h1
        rw [h2]; simp; omega
      · intro i x hx
        rw [get?_eq, h2, List.getElem?_take] at hx
        split at hx
        · rename_i hik
          rw [List.getElem?_drop] at hx
          obtain ⟨c, hc, hr⟩ := hl.get (by rw [get?_eq]; exact hx)
          refine ⟨c, ?_, hr⟩
          have hlt : off + i < cs.size := by
            rcases Nat.lt_or_ge (off + i) cs.size with h' | h'
            · exact h'
            · rw [Array.getElem?_toList, Array.getElem?_eq_none h'] at hc; cases hc
          simp only [Array.getElem?_toList] at hc ⊢
          rw [Array.getElem?_extract, if_pos (by omega)]; exact hc
        · cases hx
    · cases h
end
end Go.Av
