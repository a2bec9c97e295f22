/- The second machine's operations: numbers, texts, places. -/
import Derived.Test.YtgnpkjfaekimcaaDoorAvPO
set_option linter.unusedVariables false
set_option linter.unusedSimpArgs false
set_option linter.unusedSectionVars false
namespace Go.Av
variable {X X' X1 Y : Cx} {σ σ' : PH} {v v' : PV} {a : AV} {l l' : List PV} {r al : List AV} {h h' : AHeap} {rs vs : List PV} {ars avs : List AV}

theorem toA1_rel (hv : VRel X v a) : toA1 v = a ∨ toA1 v = .und := by cases hv <;> first | exact .inl rfl | exact .inr rfl
theorem ofA1_rel {w : AV} (e : ofA1 w = some v) : VRel X v w := by
  cases w <;> simp only [ofA1, Option.some.injEq, reduceCtorEq] at e <;> subst e
  · exact .b _
  · exact .i _ _
  · exact .s _
theorem aBin_und1 {op : BinOp} {y : AV} : aBin op .und y = none := by cases op <;> cases y <;> rfl
theorem aBin_und2 {op : BinOp} {x : AV} : aBin op x .und = none := by cases op <;> cases x <;> rfl
theorem leafEq_und1 {n : Nat} {y : AV} : leafEq n .und y = none := by
  unfold leafEq
  split <;> first | rfl | (rename_i e; cases e) | simp_all
theorem leafEq_und2 {n : Nat} {x : AV} : leafEq n x .und = none := by
  unfold leafEq
  split <;> first | rfl | (rename_i e; cases e) | simp_all

section
variable (hp : PRel X σ) (hn : NoFr X) (hr : VRelL X rs ars) (hv : VRelL X vs avs) {md : Mode}
include hp hr hv

theorem o_asS {x : AO} (e : pop md (.asS x) rs vs σ = some (v, σ')) : Out X σ' v (aop (.asS x) ars avs X.h) := by
  simp only [pop] at e
  have hx := AO.rel hr hv x
  generalize hq : x.ev ars avs = q at hx
  split at e
  · rename_i h1; rw [h1] at hx
    simp only [Option.some.injEq, Prod.mk.injEq] at e; obtain ⟨rfl, rfl⟩ := e
    cases hx
    exact .same hp (by simp only [aop, hq]) (.s _)
  · cases e
theorem o_bin {op : BinOp} {x y : AO} (e : pop md (.bin op x y) rs vs σ = some (v, σ')) : Out X σ' v (aop (.bin op x y) ars avs X.h) := by
  simp only [pop] at e
  have e1 := (pret_eq e).1
  have e2 := (pret_eq e).2
  clear e
  subst e2
  have e := e1
  unfold pBin at e
  split at e
  · rename_i w h1
    have hx := toA1_rel (AO.rel hr hv x)
    have hy := toA1_rel (AO.rel hr hv y)
    rcases hx with hx | hx
    · rcases hy with hy | hy
      · rw [hx, hy] at h1
        exact .same hp (by simp only [aop, h1, ret1]) (ofA1_rel e)
      · rw [hy, aBin_und2] at h1; cases h1
    · rw [hx, aBin_und1] at h1; cases h1
  · cases e
theorem o_un {op : UnOp} {x : AO} (e : pop md (.un op x) rs vs σ = some (v, σ')) : Out X σ' v (aop (.un op x) ars avs X.h) := by
  simp only [pop] at e
  have e1 := (pret_eq e).1
  have e2 := (pret_eq e).2
  clear e
  subst e2
  have e := e1
  unfold pUn at e
  split at e
  · rename_i w h1
    rcases toA1_rel (AO.rel hr hv x) with hx | hx
    · rw [hx] at h1
      exact .same hp (by simp only [aop, h1, ret1]) (ofA1_rel e)
    · rw [hx] at h1
      cases op <;> cases h1
  · cases e
theorem o_conv {k : IntKind} {x : AO} (e : pop md (.conv k x) rs vs σ = some (v, σ')) : Out X σ' v (aop (.conv k x) ars avs X.h) := by
  simp only [pop] at e
  have hx := AO.rel hr hv x
  generalize hq : x.ev ars avs = q at hx
  split at e
  · rename_i h1; rw [h1] at hx
    simp only [Option.some.injEq, Prod.mk.injEq] at e; obtain ⟨rfl, rfl⟩ := e
    cases hx
    exact .same hp (by simp only [aop, hq]) (.i _ _)
  · cases e
theorem pEq_rel {kd : Nat} {x y : PV} {ax ay : AV} {b : Bool} (hx : VRel X x ax) (hy : VRel X y ay) (e : pEq kd x y = some b) : aEq kd ax ay = some b := by
  unfold pEq at e
  split at e
  · cases hx; cases hy; exact e
  · cases hx; cases hy; exact e
  · cases hx; cases hy; exact e
  · cases hx; cases hy; exact e
  · rename_i b1 o1 b2 o2
    split at e
    · rename_i hb
      have := beq_iff.1 hb; subst this
      cases hx with
      | p _ _ B off h1 =>
        cases hy with
        | p _ _ B' off' h2 =>
          rw [h1] at h2; injection h2 with h2; injection h2 with e1 e2; subst e1; subst e2
          have hB : Nat.beq B B = true := beq_iff.2 rfl
          simp only [aEq, hB]
          rw [← e]
          congr 1
          cases h3 : Nat.beq o1 o2 with
          | true => have := beq_iff.1 h3; subst this; exact beq_iff.2 rfl
          | false =>
            cases h4 : Nat.beq (off + o1) (off + o2) with
            | false => rfl
            | true =>
              have := beq_iff.1 h4
              have : Nat.beq o1 o2 = true := beq_iff.2 (by omega)
              rw [h3] at this; cases this
    · cases e
  · cases hx; cases hy; exact e
  · cases hx; cases hy; exact e
  · cases hx; cases hy; exact e
  · cases hx; cases hy; exact e
  · cases hx; cases hy; exact e
  · cases hx; cases hy; exact e
  · cases hx; cases hy; exact e
  · cases hx; cases hy; exact e
  · cases hx; cases hy; exact e
  · cases e
omit hp hr hv in
theorem pmapB_eq {neg : Bool} {o : Option Bool} (e : pmapB neg o = some v) : ∃ b, o = some b ∧ v = .b (xor neg b) := by
  cases o with
  | none => cases e
  | some b => simp only [pmapB, Option.some.injEq] at e; exact ⟨b, rfl, e.symm⟩
omit hr hv in
theorem nilEq_rel {kd : Nat} {x : PV} {y : AO} {ax : AV} {b : Bool} (hx : VRel X x ax) (e : pNilEq σ kd x y = some b) : kd = 2 ∧ y = .c .nils ∧ (∃ B o n c, ax = .sl B o n c) ∧ b = false := by
  unfold pNilEq at e
  split at e
  · split at e
    · rename_i hrd
      injection e with e
      refine ⟨rfl, rfl, ?_, e.symm⟩
      cases hx with
      | lsv => exact ⟨_, _, _, _, rfl⟩
      | lo => exact ⟨_, _, _, _, rfl⟩
      | lsh => exact ⟨_, _, _, _, rfl⟩
      | lx r v n cs a h ha =>
        exfalso
        obtain ⟨_, h2⟩ := h
        rcases reads_of hp hrd with ⟨x, ez, h3⟩ | h3
        · rw [h3] at h2; exact absurd h2 (Nat.lt_irrefl _)
        · rw [h3] at h2; exact h2 rfl
    · cases e
  · injection e with e
    refine ⟨rfl, rfl, ?_, e.symm⟩
    cases hx
    exact ⟨_, _, _, _, rfl⟩
  · cases e
theorem o_eq {neg : Bool} {kd : Nat} {x y : AO} (e : pop md (.eq neg kd x y) rs vs σ = some (v, σ')) : Out X σ' v (aop (.eq neg kd x y) ars avs X.h) := by
  simp only [pop] at e
  split at e
  · rename_i b hb
    simp only [Option.some.injEq, Prod.mk.injEq] at e
    obtain ⟨rfl, rfl⟩ := e
    obtain ⟨rfl, rfl, ⟨B, o, n, c, hax⟩, rfl⟩ := nilEq_rel hp (AO.rel hr hv x) hb
    have h2 : aEq 2 (x.ev ars avs) ((AO.c .nils).ev ars avs) = some false := by rw [hax]; rfl
    exact .same hp (by simp only [aop, h2, mapB, ret1]) (.b _)
  have e1 := (pret_eq e).1
  have e2 := (pret_eq e).2
  clear e
  subst e2
  have e := e1
  obtain ⟨b, h1, rfl⟩ := pmapB_eq e
  have := pEq_rel hp hr hv (AO.rel hr hv x) (AO.rel hr hv y) h1
  exact .same hp (by simp only [aop, this, mapB, ret1]) (.b _)
omit hp hr hv in
theorem pleafEq_rel {n : Nat} {x y : PV} {ax ay : AV} {b : Bool} (hx : VRel X x ax) (hy : VRel X y ay) (e : pleafEq n x y = some b) : leafEq n ax ay = some b := by
  unfold pleafEq at e
  rcases toA1_rel hx with h1 | h1
  · rcases toA1_rel hy with h2 | h2
    · rw [h1, h2] at e; exact e
    · rw [h2, leafEq_und2] at e; cases e
  · rw [h1, leafEq_und1] at e; cases e
omit hp hr hv in
theorem pleavesEq_rel : ∀ {ls : List Nat} {x y : List PV} {ax ay : List AV} {b : Bool}, VRelL X x ax → VRelL X y ay → pleavesEq ls x y = some b → leavesEq ls ax ay = some b
  | ls, _, _, _, _, b, .nil, .nil, e => by
    cases ls with
    | nil => exact e
    | cons => simp [pleavesEq] at e
  | ls, _, _, _, _, b, .nil, .cons .., e => by cases ls <;> simp [pleavesEq] at e
  | ls, _, _, _, _, b, .cons .., .nil, e => by cases ls <;> simp [pleavesEq] at e
  | ls, _, _, _, _, b, .cons _ _ _ _ hx hl, .cons _ _ _ _ hy hm, e => by
    cases ls with
    | nil => simp [pleavesEq] at e
    | cons n ls =>
      simp only [pleavesEq] at e
      split at e
      · rename_i h1
        simp only [leavesEq, pleafEq_rel hx hy h1]
        exact pleavesEq_rel hl hm e
      · rename_i h1
        simp only [leavesEq, pleafEq_rel hx hy h1]
        exact e
      · cases e
theorem o_eqA {neg : Bool} {ls : List Nat} {x y : AO} (e : pop md (.eqA neg ls x y) rs vs σ = some (v, σ')) : Out X σ' v (aop (.eqA neg ls x y) ars avs X.h) := by
  simp only [pop] at e
  have hx := AO.rel hr hv x
  have hy := AO.rel hr hv y
  generalize hq : x.ev ars avs = q at hx
  generalize hq2 : y.ev ars avs = q2 at hy
  split at e
  · rename_i h1 h2; rw [h1] at hx; rw [h2] at hy
    have e1 := (pret_eq e).1
    have e2 := (pret_eq e).2
    clear e
    subst e2
    have e := e1
    obtain ⟨b, h1, rfl⟩ := pmapB_eq e
    cases hx with
    | agg _ _ hx =>
      cases hy with
      | agg _ _ hy =>
        have := pleavesEq_rel hx hy h1
        exact .same hp (by simp only [aop, hq, hq2, this, mapB, ret1]) (.b _)
  · cases e
theorem o_mkifc {t : Nat} {x : AO} (e : pop md (.mkifc t x) rs vs σ = some (v, σ')) : Out X σ' v (aop (.mkifc t x) ars avs X.h) := by
  simp only [pop, Option.some.injEq, Prod.mk.injEq] at e; obtain ⟨rfl, rfl⟩ := e
  exact .same hp rfl (.ifc _ _ _ (AO.rel hr hv x))
theorem o_mkfn {f : Nat} {fi ca : List AO} (e : pop md (.mkfn f fi ca) rs vs σ = some (v, σ')) : Out X σ' v (aop (.mkfn f fi ca) ars avs X.h) := by
  simp only [pop, Option.some.injEq, Prod.mk.injEq] at e; obtain ⟨rfl, rfl⟩ := e
  exact .same hp rfl (.f _ _ _ _ _ (evs_rel hr hv fi) (evs_rel hr hv ca))
omit hr hv in
include hn in
theorem newMap : ∃ X', Tr X X' ∧ PRel X' (σ.push (.map [] 0)) ∧ X'.h = X.h.push (.map [] 0) ∧ X'.ob σ.ob.length = some (X.h.n, 0) := by
  have p1 := hp.more (some (.fr 0)) (.map [] 0) (.inr ⟨0, rfl⟩)
  have k1 := Tr.more hp (some (.fr 0)) (.map [] 0)
  have hO : (X.more (some (.fr 0)) (.map [] 0)).O X.h.n = some (.fr 0) := by show (if _ then _ else _) = _; rw [if_pos rfl]
  have hg : (X.more (some (.fr 0)) (.map [] 0)).h.get X.h.n = some (.map [] 0) := by
    show (X.h.push _).get _ = _; rw [AHeap.get_push, if_pos rfl]
  have p2 := p1.namedM hO hg hp.lim
  refine ⟨_, hp.trans k1 (.named p1 0 X.h.n 0), p2, rfl, ?_⟩
  show (if _ then _ else _) = _; rw [if_pos rfl]
include hn in
theorem o_mkmap (e : pop md .mkmap rs vs σ = some (v, σ')) : Out X σ' v (aop .mkmap ars avs X.h) := by
  simp only [pop, Option.some.injEq, Prod.mk.injEq] at e; obtain ⟨rfl, rfl⟩ := e
  obtain ⟨X', k, p, hh, hob⟩ := newMap hp hn
  exact .of (a := .m X.h.n) (X' := X') (by simp only [aop, hh]) k p (.m _ _ hob)
include hn in
theorem o_mksl {ez bytes : Nat} {z : List AV} {n c : AO} (e : pop md (.mksl ez bytes z n c) rs vs σ = some (v, σ')) : Out X σ' v (aop (.mksl ez bytes z n c) ars avs X.h) := by
  simp only [pop] at e
  have hx := AO.rel hr hv n
  have hy := AO.rel hr hv c
  generalize hq : n.ev ars avs = q at hx
  generalize hq2 : c.ev ars avs = q2 at hy
  split at e
  · rename_i nn cc h1 h2; rw [h1] at hx; rw [h2] at hy
    cases hx; cases hy
    split at e
    · rename_i b1 b2 b3
      simp only [Option.some.injEq, Prod.mk.injEq] at e; obtain ⟨rfl, rfl⟩ := e
      obtain ⟨X', k, p, hh, hob⟩ := newObj (ez := ez) hp hn (prep_rel (X := X) (z := z) cc)
      refine .of (a := .sl X.h.n 0 nn (.k cc)) (X' := X') (by simp only [aop, hq, hq2, b1, b2, b3, hh]) k p ?_
      exact .sl _ _ _ _ _ _ _ hob ⟨rfl, ble_iff.1 b1⟩
    · cases e
  · cases e
theorem o_faddr {off : Nat} {x : AO} (e : pop md (.faddr off x) rs vs σ = some (v, σ')) : Out X σ' v (aop (.faddr off x) ars avs X.h) := by
  simp only [pop] at e
  have hx := AO.rel hr hv x
  generalize hq : x.ev ars avs = q at hx
  split at e
  · rename_i h1; rw [h1] at hx
    simp only [Option.some.injEq, Prod.mk.injEq] at e; obtain ⟨rfl, rfl⟩ := e
    cases hx with
    | p b o B of hob => exact .same hp (by simp only [aop, hq, Nat.add_assoc]) (.p _ _ _ _ hob)
  · rename_i h1; rw [h1] at hx
    split at e
    · rename_i hrd
      simp only [Option.some.injEq, Prod.mk.injEq] at e; obtain ⟨rfl, rfl⟩ := e
      cases hx with
      | pls t cs o B oA hcr => exact .same hp (by simp only [aop, hq, Nat.add_assoc]) (.pls _ _ _ _ _ hcr)
      | plsx r v1 cs o a hs ha => exact (not_stale (reads_of hp hrd) hs).elim
    · cases e
  · cases e
theorem pFld_rel {off : Nat} {n : Option Nat} {x : PV} {ax : AV} (hx : VRel X x ax) (e : pFld off n x = some v) : ∃ a, aFld off n ax = some a ∧ VRel X v a := by
  unfold pFld at e
  split at e
  · cases hx with
    | agg _ _ hl =>
      split at e
      · obtain ⟨a, h1, h2⟩ := pget_rel e hl
        exact ⟨a, h1, h2⟩
      · split at e
        · rename_i h1
          injection e with e; subst e
          obtain ⟨aq, b1, b2, _⟩ := psub_rel h1 hl
          exact ⟨.agg aq, by simp only [aFld, b1], .agg _ _ b2⟩
        · cases e
  · cases e
theorem o_fld {off : Nat} {n : Option Nat} {x : AO} (e : pop md (.fld off n x) rs vs σ = some (v, σ')) : Out X σ' v (aop (.fld off n x) ars avs X.h) := by
  simp only [pop] at e
  have e1 := (pret_eq e).1
  have e2 := (pret_eq e).2
  clear e
  subst e2
  have e := e1
  obtain ⟨a, h1, h2⟩ := pFld_rel hp hr hv (AO.rel hr hv x) e
  exact .same hp (by simp only [aop, h1, ret1]) h2
omit hp hr hv in
theorem pIndex_rel {n j : Nat} {i : PV} {ai : AV} (hi : VRel X i ai) (e : pIndex i n = some j) : aIndex ai n = some j := by
  unfold pIndex at e
  split at e
  · cases hi; exact e
  · cases e
theorem o_iaA {n ez : Nat} {x i : AO} (e : pop md (.iaA n ez x i) rs vs σ = some (v, σ')) : Out X σ' v (aop (.iaA n ez x i) ars avs X.h) := by
  simp only [pop] at e
  have hx := AO.rel hr hv x
  generalize hq : x.ev ars avs = q at hx
  split at e
  · rename_i h1 hj; rw [h1] at hx
    have := pIndex_rel (AO.rel hr hv i) hj
    simp only [Option.some.injEq, Prod.mk.injEq] at e; obtain ⟨rfl, rfl⟩ := e
    cases hx with
    | p b o B of hob => exact .same hp (by simp only [aop, hq, this, Nat.add_assoc]) (.p _ _ _ _ hob)
  · rename_i h1 hj; rw [h1] at hx
    have := pIndex_rel (AO.rel hr hv i) hj
    split at e
    · rename_i hrd
      simp only [Option.some.injEq, Prod.mk.injEq] at e; obtain ⟨rfl, rfl⟩ := e
      cases hx with
      | pls t cs o B oA hcr => exact .same hp (by simp only [aop, hq, this, Nat.add_assoc]) (.pls _ _ _ _ _ hcr)
      | plsx r v1 cs o a hs ha => exact (not_stale (reads_of hp hrd) hs).elim
    · cases e
  · cases e
theorem o_iaS {ez : Nat} {x i : AO} (e : pop md (.iaS ez x i) rs vs σ = some (v, σ')) : Out X σ' v (aop (.iaS ez x i) ars avs X.h) := by
  simp only [pop] at e
  have hx := AO.rel hr hv x
  generalize hq : x.ev ars avs = q at hx
  split at e
  · rename_i b o n c h1; rw [h1] at hx
    split at e
    · rename_i j hj
      have := pIndex_rel (AO.rel hr hv i) hj
      simp only [Option.some.injEq, Prod.mk.injEq] at e; obtain ⟨rfl, rfl⟩ := e
      cases hx with
      | sl _ _ _ _ B of ac hob => exact .same hp (by simp only [aop, hq, this, Nat.add_assoc]) (.p _ _ _ _ hob)
    · cases e
  · rename_i t n cs h1; rw [h1] at hx
    split at e
    · rename_i j hj hrd
      have hlt : j < n := by
        unfold pIndex at hj
        split at hj
        · split at hj
          · rename_i hb; injection hj with hj; subst hj; exact blt_iff.1 hb
          · cases hj
        · cases hj
      have := pIndex_rel (AO.rel hr hv i) hj
      simp only [Option.some.injEq, Prod.mk.injEq] at e; obtain ⟨rfl, rfl⟩ := e
      cases hx with
      | ls0 => omega
      | lo0 => omega
      | lsv _ _ _ _ B oA ac hcr => exact .same hp (by simp only [aop, hq, this]) (.pls _ _ _ _ _ hcr)
      | lo _ _ _ _ _ _ oA ac _ _ _ _ _ _ hcr => exact .same hp (by simp only [aop, hq, this]) (.pls _ _ _ _ _ hcr)
      | lsh _ _ _ _ B oA ac _ hcr => exact .same hp (by simp only [aop, hq, this]) (.pls _ _ _ _ _ hcr)
      | lx r v1 _ _ a hs ha => exact (not_stale (reads_of hp hrd) hs).elim
    · cases e
  · cases e
theorem o_idxA {n ez : Nat} {ag : Bool} {x i : AO} (e : pop md (.idxA n ez ag x i) rs vs σ = some (v, σ')) : Out X σ' v (aop (.idxA n ez ag x i) ars avs X.h) := by
  simp only [pop] at e
  split at e
  · rename_i j hj
    have := pIndex_rel (AO.rel hr hv i) hj
    have e1 := (pret_eq e).1
    have e2 := (pret_eq e).2
    clear e
    subst e2
    have e := e1
    obtain ⟨a, h1, h2⟩ := pFld_rel hp hr hv (AO.rel hr hv x) e
    exact .same hp (by simp only [aop, this]; exact congrArg (ret1 X.h) h1) h2
  · cases e
theorem o_idxS {x i : AO} (e : pop md (.idxS x i) rs vs σ = some (v, σ')) : Out X σ' v (aop (.idxS x i) ars avs X.h) := by
  simp only [pop] at e
  have hx := AO.rel hr hv x
  have hy := AO.rel hr hv i
  generalize hq : x.ev ars avs = q at hx
  generalize hq2 : i.ev ars avs = q2 at hy
  split at e
  · rename_i h1 h2; rw [h1] at hx; rw [h2] at hy
    cases hx; cases hy
    split at e
    · rename_i h3
      simp only [Option.some.injEq, Prod.mk.injEq] at e; obtain ⟨rfl, rfl⟩ := e
      exact .same hp (by simp only [aop, hq, hq2, h3]) (.i _ _)
    · cases e
  · cases e
theorem o_ext {i : Nat} {x : AO} (e : pop md (.ext i x) rs vs σ = some (v, σ')) : Out X σ' v (aop (.ext i x) ars avs X.h) := by
  simp only [pop] at e
  have hx := AO.rel hr hv x
  generalize hq : x.ev ars avs = q at hx
  split at e
  · rename_i h1; rw [h1] at hx
    have e1 := (pret_eq e).1
    have e2 := (pret_eq e).2
    clear e
    subst e2
    have e := e1
    cases hx with
    | tup _ _ hl =>
      obtain ⟨a, h1, h2⟩ := pget_rel e hl
      exact .same hp (by simp only [aop, hq, h1, ret1]) h2
  · cases e
omit hp hr hv in
theorem pMinF : ∀ {l : List PV} {al : List AV} {k : IntKind} {n : Int} {w : AV}, VRelL X l al → aMinF k n (l.map toA1) = some w → aMinF k n al = some w
  | _, _, k, n, w, .nil, e => e
  | _, _, k, n, w, .cons v a l r hv hl, e => by
    rcases toA1_rel hv with h1 | h1
    · simp only [List.map_cons, h1] at e
      cases a <;> first | (cases e; done) | (simp only [aMinF] at e ⊢; exact pMinF hl e)
    · simp only [List.map_cons, h1, aMinF] at e; cases e
omit hp hr hv in
theorem pMaxF : ∀ {l : List PV} {al : List AV} {k : IntKind} {n : Int} {w : AV}, VRelL X l al → aMaxF k n (l.map toA1) = some w → aMaxF k n al = some w
  | _, _, k, n, w, .nil, e => e
  | _, _, k, n, w, .cons v a l r hv hl, e => by
    rcases toA1_rel hv with h1 | h1
    · simp only [List.map_cons, h1] at e
      cases a <;> first | (cases e; done) | (simp only [aMaxF] at e ⊢; exact pMaxF hl e)
    · simp only [List.map_cons, h1, aMaxF] at e; cases e
theorem o_min {xs : List AO} (e : pop md (.min xs) rs vs σ = some (v, σ')) : Out X σ' v (aop (.min xs) ars avs X.h) := by
  simp only [pop] at e
  have e1 := (pret_eq e).1
  have e2 := (pret_eq e).2
  clear e
  subst e2
  have e := e1
  unfold pMin at e
  split at e
  · rename_i w h1
    have hl := evs_rel hr hv xs
    refine .same (a := w) hp ?_ (ofA1_rel e)
    have : aMin (evs ars avs xs) = some w := by
      revert h1 hl
      generalize evs ars avs xs = q
      generalize pevs rs vs xs = p
      intro h1 hl
      cases hl with
      | nil => exact h1
      | cons v a l r hv hl =>
        rcases toA1_rel hv with h2 | h2
        · simp only [List.map_cons, h2] at h1
          cases a <;> first | (cases h1; done) | (simp only [aMin] at h1 ⊢; exact pMinF hl h1)
        · simp only [List.map_cons, h2, aMin] at h1; cases h1
    simp only [aop, this, ret1]
  · cases e
theorem o_max {xs : List AO} (e : pop md (.max xs) rs vs σ = some (v, σ')) : Out X σ' v (aop (.max xs) ars avs X.h) := by
  simp only [pop] at e
  have e1 := (pret_eq e).1
  have e2 := (pret_eq e).2
  clear e
  subst e2
  have e := e1
  unfold pMax at e
  split at e
  · rename_i w h1
    have hl := evs_rel hr hv xs
    refine .same (a := w) hp ?_ (ofA1_rel e)
    have : aMax (evs ars avs xs) = some w := by
      revert h1 hl
      generalize evs ars avs xs = q
      generalize pevs rs vs xs = p
      intro h1 hl
      cases hl with
      | nil => exact h1
      | cons v a l r hv hl =>
        rcases toA1_rel hv with h2 | h2
        · simp only [List.map_cons, h2] at h1
          cases a <;> first | (cases h1; done) | (simp only [aMax] at h1 ⊢; exact pMaxF hl h1)
        · simp only [List.map_cons, h2, aMax] at h1; cases h1
    simp only [aop, this, ret1]
  · cases e
end
end Go.Av
