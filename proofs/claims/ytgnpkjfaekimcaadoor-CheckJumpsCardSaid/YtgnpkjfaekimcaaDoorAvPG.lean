/- The second machine: calls' results. -/
import Derived.Test.YtgnpkjfaekimcaaDoorAvPC
set_option linter.unusedVariables false
set_option linter.unusedSimpArgs false
set_option linter.unusedSectionVars false
namespace Go.Av
variable {X X' X1 Y : Cx} {σ σ' : PH} {v v' : PV} {a : AV} {l l' : List PV} {r al : List AV} {h h' : AHeap}

def NoFr (X : Cx) : Prop := ∀ B i, X.O B ≠ some (.fr i)
def Cx.plain (X : Cx) : Cx := X.drop fun o => match o with | .fr _ => true | _ => false
theorem NoFr.plain : NoFr X.plain := fun B i h => by
  have h1 := Cx.drop_inv h
  have : X.plain.O B = none := by simp [Cx.plain, Cx.drop, h1]
  rw [this] at h; cases h
theorem PRel.plain (hp : PRel X σ) : PRel X.plain σ := by
  have k := Tr.drop (X := X) fun o => match o with | .fr _ => true | _ => false
  refine ⟨hp.rt, hp.dom, fun c cs ez h => (hp.obj c cs ez h).keep k rfl (fun C hC => Cx.drop_some hC rfl), fun c es cl h => (hp.map c es cl h).keep k rfl (fun C hC => Cx.drop_some hC rfl),
    fun r v x ez h hx => (hp.root r v x ez h hx).keep k rfl rfl (fun C hC => Cx.drop_some hC rfl), fun B o h => hp.own B o (Cx.drop_inv h), fun B b h => hp.ownb B b (Cx.drop_inv h), fun B b h => hp.ownr B b (Cx.drop_inv h), hp.newG, hp.lim⟩
theorem Tr.plain (X : Cx) : Tr X X.plain := .drop _

/-- A fresh list: nobody else has what it lies in. -/
def FreshOk (X : Cx) (i x ez n : Nat) (cs : List PV) (a : AV) : Prop :=
  (x = 0 ∧ n = 0 ∧ cs = [] ∧ zeroA true a) ∨
  (0 < x ∧ ∃ B oA ac acs cc prev, a = .sl B oA n ac ∧ X.O B = some (.fr i) ∧ X.G B ∧ X.h.get B = some (.cells cc .rw prev ez) ∧ (∀ q ∈ prev, q < X.h.n ∧ X.O q = some (.fr i) ∧ q ≠ B) ∧
    Room ac oA x ez cc.length n ∧ VRelL X cs acs ∧ Cont X.h B oA acs ∧ Part cc oA acs ∧ cloL false cs = true)
def resClo : PV → Bool
  | .agg l => cloL false l
  | .ifc _ x => isClo false x
  | v => isClo false v
def GRel (X : Cx) (i : Nat) (v : PV) (a : AV) : Prop :=
  (∃ x ez n cs, v = .ls (.fresh x ez) n cs ∧ FreshOk X i x ez n cs a) ∨ (resClo v = true ∧ VRel X v a)
inductive GRelL (X : Cx) : Nat → List PV → List AV → Prop
  | nil (i : Nat) : GRelL X i [] []
  | cons (i : Nat) (v : PV) (a : AV) (l : List PV) (r : List AV) (h : GRel X i v a) (hl : GRelL X (i + 1) l r) : GRelL X i (v :: l) (a :: r)

theorem FreshOk.keep {i x ez n : Nat} {cs : List PV} (k : Tr X X') (hh : ∀ B, X.O B = some (.fr i) → X'.h.get B = X.h.get B) (hm : ∀ B, X.O B = some (.fr i) → X'.O B = some (.fr i)) (hn : ∀ B, X.O B = some (.fr i) → B < X.h.n) (f : FreshOk X i x ez n cs a) : FreshOk X' i x ez n cs a := by
  rcases f with h | ⟨hx, B, oA, ac, acs, cc, prev, h1, h2, h3, h4, h5, h6, h7, h8, h9, h10⟩
  · exact .inl h
  · refine .inr ⟨hx, B, oA, ac, acs, cc, prev, h1, hm B h2, by rw [k.G]; exact h3, by rw [hh B h2]; exact h4, fun q hq => ?_, h6, h7.tr k, h8.same (hh B h2) (Nat.lt_of_lt_of_le h8.1 k.n), h9, h10⟩
    obtain ⟨a1, a2, a3⟩ := h5 q hq
    exact ⟨Nat.lt_of_lt_of_le a1 k.n, hm q a2, a3⟩
theorem GRel.keep {i : Nat} (k : Tr X X') (hh : ∀ B, X.O B = some (.fr i) → X'.h.get B = X.h.get B) (hm : ∀ B, X.O B = some (.fr i) → X'.O B = some (.fr i)) (hn : ∀ B, X.O B = some (.fr i) → B < X.h.n) (f : GRel X i v a) : GRel X' i v a := by
  rcases f with ⟨x, ez, n, cs, e, f⟩ | ⟨h1, h2⟩
  · exact .inl ⟨x, ez, n, cs, e, f.keep k hh hm hn⟩
  · exact .inr ⟨h1, h2.tr k⟩

/-- What belongs to one becomes a call's result. -/
def Cx.give (X : Cx) (w : Owner → Bool) (i : Nat) (rt' : List Root) : Cx := ⟨X.ob, X.rb, rt', fun B => match X.O B with
  | some o => if w o then some (.fr i) else some o
  | none => none, X.G, X.h⟩
theorem Cx.give_ne {w : Owner → Bool} {i B : Nat} {rt' : List Root} {o : Owner} (h : X.O B = some o) (hw : w o = false) : (X.give w i rt').O B = some o := by simp [Cx.give, h, hw]
theorem Cx.give_eq {w : Owner → Bool} {i B : Nat} {rt' : List Root} {o : Owner} (h : X.O B = some o) (hw : w o = true) : (X.give w i rt').O B = some (.fr i) := by simp [Cx.give, h, hw]
theorem Cx.give_inv {w : Owner → Bool} {i B : Nat} {rt' : List Root} {o : Owner} (h : (X.give w i rt').O B = some o) : (X.O B = some o ∧ w o = false) ∨ (o = .fr i ∧ ∃ o', X.O B = some o' ∧ w o' = true) := by
  cases e : X.O B with
  | none => simp [Cx.give, e] at h
  | some o' =>
    cases hw : w o' with
    | true =>
      rw [Cx.give_eq e hw] at h; injection h with h
      exact .inr ⟨h.symm, o', rfl, hw⟩
    | false =>
      rw [Cx.give_ne e hw] at h; injection h with h; subst h
      exact .inl ⟨rfl, hw⟩
def isOb (b : Nat) : Owner → Bool
  | .ob c => decide (c = b)
  | _ => false
def isRt (r : Nat) : Owner → Bool
  | .rt c => decide (c = r)
  | _ => false
theorem give_ob (hp : PRel X σ) (b i : Nat) : Tr X (X.give (isOb b) i X.rt) ∧ PRel (X.give (isOb b) i X.rt) (σ.put b .dead) := by
  have k : Tr X (X.give (isOb b) i X.rt) := .of (fun _ _ h => h) (fun B h _ => ⟨by simp [Cx.give, h], rfl⟩) (Nat.le_refl _) rfl rfl rfl (fun _ _ _ _ _ _ => ⟨rfl, rfl⟩)
  have hget : ∀ c o, (σ.put b .dead).get c = o → o ≠ .dead → c ≠ b ∧ σ.get c = o := by
    intro c o h ho
    have hlt : c < σ.ob.length := by have := getO_lt h ho; simpa [PH.put, setO_length] using this
    have h' : getO (setO σ.ob b .dead) c = o := h
    rw [getO_setO _ _ _ _ hlt] at h'
    split at h'
    · exact absurd h'.symm ho
    · rename_i e; exact ⟨e, h'⟩
  refine ⟨k, hp.rt, fun c q h => by have := hp.dom c q h; simpa [PH.put, setO_length] using this, fun c cs ez h => ?_, fun c es cl h => ?_,
    fun r v x ez h hx => (hp.root r v x ez h hx).keep k rfl rfl (fun C hC => ⟨Cx.give_ne hC rfl, rfl⟩), fun B o h => ?_, fun B c h => ?_, fun B c h => ?_, hp.newG, hp.lim⟩
  · obtain ⟨e, h'⟩ := hget c _ h (by simp)
    exact (hp.obj c cs ez h').keep k rfl (fun C hC => ⟨Cx.give_ne hC (by simp [isOb, e]), rfl⟩)
  · obtain ⟨e, h'⟩ := hget c _ h (by simp)
    exact (hp.map c es cl h').keep k rfl (fun C hC => ⟨Cx.give_ne hC (by simp [isOb, e]), rfl⟩)
  · rcases Cx.give_inv h with ⟨h, _⟩ | ⟨_, o', h, _⟩ <;> exact hp.own B _ h
  · rcases Cx.give_inv h with ⟨h, _⟩ | ⟨e, _⟩
    · have := hp.ownb B c h; simpa [PH.put, setO_length] using this
    · cases e
  · rcases Cx.give_inv h with ⟨h, _⟩ | ⟨e, _⟩
    · exact hp.ownr B c h
    · cases e
theorem give_rt (hp : PRel X σ) {r v x ez : Nat} (i : Nat) (hr : getR X.rt r = .live v x ez) :
    Tr X (X.give (isRt r) i (setR X.rt r .gone)) ∧ PRel (X.give (isRt r) i (setR X.rt r .gone)) (σ.setRoot r .gone) := by
  have hlt := getR_lt hr (by simp)
  have hrt : ∀ q, getR (setR X.rt r .gone) q = if q = r then .gone else getR X.rt q := fun q => getR_setR' _ _ _ _ hlt
  have k : Tr X (X.give (isRt r) i (setR X.rt r .gone)) := by
    refine Tr.mk' (fun _ _ h => h) (fun B h _ => ⟨by simp [Cx.give, h], rfl⟩) (Nat.le_refl _) rfl rfl (by simp [Cx.give, setR_length]) (fun q hq => ?_)
    unfold RTr
    have h2 := hrt q
    by_cases e : q = r
    · subst e; rw [hr]; simp only
      refine .inr (.inr ?_)
      show match getR (setR X.rt q .gone) q with | .gone => True | .shut v' => v < v' | .live v' _ _ => v < v'
      rw [h2, if_pos rfl]; trivial
    · rw [if_neg e] at h2
      cases e' : getR X.rt q with
      | gone => exact h2.trans e'
      | shut v => exact h2.trans e'
      | live v2 x2 ez2 => exact .inl ⟨h2.trans e', fun _ => ⟨rfl, rfl⟩⟩
  refine ⟨k, by simp [Cx.give, PH.setRoot, hp.rt], hp.dom, fun c cs ez h => (hp.obj c cs ez h).keep k rfl (fun C hC => ⟨Cx.give_ne hC rfl, rfl⟩), fun c es cl h => (hp.map c es cl h).keep k rfl (fun C hC => ⟨Cx.give_ne hC rfl, rfl⟩),
    fun q v2 x2 ez2 h hx => ?_, fun B o h => ?_, fun B c h => ?_, fun B c h => ?_, hp.newG, hp.lim⟩
  · have hg' : getR (σ.setRoot r .gone).rt q = if q = r then .gone else getR σ.rt q := getR_setR' _ _ _ _ (by rw [← hp.rt]; exact hlt)
    rw [hg'] at h
    split at h
    · cases h
    · rename_i e
      exact (hp.root q v2 x2 ez2 h hx).keep k rfl rfl (fun C hC => ⟨Cx.give_ne hC (by simp [isRt, e]), rfl⟩)
  · rcases Cx.give_inv h with ⟨h, _⟩ | ⟨_, o', h, _⟩ <;> exact hp.own B _ h
  · rcases Cx.give_inv h with ⟨h, _⟩ | ⟨e, _⟩
    · exact hp.ownb B c h
    · cases e
  · rcases Cx.give_inv h with ⟨h, _⟩ | ⟨e, _⟩
    · have := hp.ownr B c h; simpa [PH.setRoot, setR_length] using this
    · cases e

/-- Calls' results, but the i-th, stay what they are. -/
def KpB (i : Nat) (X X' : Cx) : Prop := ∀ B j, j ≠ i → (X.O B = some (.fr j) ↔ X'.O B = some (.fr j))
theorem Kp.b {i : Nat} (h : Kp X X') : KpB i X X' := fun B j _ => h B j
theorem KpB.give {w : Owner → Bool} {i : Nat} {rt' : List Root} (hw : ∀ j, w (.fr j) = false) : KpB i X (X.give w i rt') := fun B j hj => by
  constructor
  · intro h; exact Cx.give_ne h (hw j)
  · intro h
    rcases Cx.give_inv h with ⟨h, _⟩ | ⟨e, _⟩
    · exact h
    · injection e with e; exact absurd e hj

theorem resClo_of (h : isClo false v = true) : resClo v = true := by
  cases v <;> first | exact h | (simp [isClo] at h)
theorem giv1_rel {i : Nat} (e : giv1 σ v = some (v', σ')) (hp : PRel X σ) (hv : VRel X v a) :
    ∃ X', Tr X X' ∧ PRel X' σ' ∧ X'.h = X.h ∧ KpB i X X' ∧ GRel X' i v' a := by
  have viaClo : ∀ {X1 : Cx} {σ' : PH} {v' : PV}, Clo X σ' X1 → VRel X1 v' a → resClo v' = true → ∃ X', Tr X X' ∧ PRel X' σ' ∧ X'.h = X.h ∧ KpB i X X' ∧ GRel X' i v' a :=
    fun c h1 h2 => ⟨_, c.tr, c.rel, c.h, c.kp.b, .inr ⟨h2, h1⟩⟩
  unfold giv1 at e
  split at e
  · rename_i r v1 n cs
    split at e
    · rename_i v2 x ez hr
      split at e
      · rename_i hb
        simp only [Option.some.injEq, Prod.mk.injEq] at e
        obtain ⟨rfl, rfl⟩ := e
        have := beq_iff.1 hb; subst this
        have hr' : getR X.rt r = .live v1 x ez := by rw [hp.rt]; exact hr
        obtain ⟨k1, k2⟩ := give_rt hp i hr'
        refine ⟨_, k1, k2, rfl, .give (fun j => rfl), .inl ⟨x, ez, n, cs, rfl, ?_⟩⟩
        cases hv with
        | lo0 _ _ _ hh hlt hz =>
          rcases hh with ⟨ez', e⟩ | e
          · rw [hr'] at e; injection e with e1 e2 e3; exact .inl ⟨e2, rfl, rfl, hz⟩
          · rw [hr'] at e; cases e
        | lo _ _ x' ez' _ _ oA ac cc prev hr2 hx hg hm hcr =>
          rw [hr'] at hr2; injection hr2 with e1 e2 e3; subst e2; subst e3
          obtain ⟨cc2, prev2, g1, g2, g3, g4, g5, g6⟩ := hp.root r v1 x ez hr hx
          rw [hg] at g1; injection g1 with g1; injection g1 with e1 e2 e3 e4; subst e1; subst e3
          cases hcr with
          | live _ _ _ _ _ acs _ _ _ hl hc hk =>
            refine .inr ⟨hx, _, oA, ac, acs, cc, prev, rfl, Cx.give_eq g2 (by simp [isRt]), g4, hg, fun q hq => ?_, hm, hl.tr k1, hc, ⟨?_, ?_⟩, hk⟩
            · obtain ⟨a1, a2, a3⟩ := g5 q hq
              exact ⟨a1, Cx.give_eq a2 (by simp [isRt]), a3⟩
            · rcases hm.2 with ⟨e, _, h1⟩ | ⟨_, h1⟩ <;> omega
            · obtain ⟨_, _, cc', st, prev', ez'', h1, h2⟩ := hc
              rw [hg] at h1; injection h1 with h1; injection h1 with e1 e2 e3 e4; subst e1; exact h2
          | shut _ _ _ _ _ _ hr3 => rw [hr'] at hr3; cases hr3
        | lsh _ _ _ _ _ _ _ hr2 => rw [hr'] at hr2; cases hr2
        | lx _ _ _ _ _ hs => exact (not_stale (.inl ⟨x, ez, hr'⟩) hs).elim
      · cases e
    · rename_i v2 hr
      split at e
      · rename_i hb
        simp only [Option.some.injEq, Prod.mk.injEq] at e
        obtain ⟨rfl, rfl⟩ := e
        have := beq_iff.1 hb; subst this
        exact ⟨X, .refl X, hp, rfl, (Kp.refl X).b, .inr ⟨rfl, shut_view (by rw [hp.rt]; exact hr) hv⟩⟩
      · cases e
    · cases e
  · rename_i b o n c
    split at e
    · rename_i cs ez hb hnc
      split at e
      · rename_i q hq
        split at e
        · rename_i l1 σ1 hm
          have hnc := beq_iff.1 hnc; subst hnc
          obtain ⟨B, off, aq, cc, prev, h1, h2, h3, h4, h5, h6, h7, h8, h9⟩ := (hp.obj b cs _ hb).part hq
          obtain ⟨X1, c1, q1, q2⟩ := mapC_rel (fun e hp hv => clo_rel 8 e hp hv) hm hp h7
          cases hv with
          | sl _ _ _ _ B' off' ac hob hcap =>
            rw [h1] at hob; injection hob with hob; injection hob with e1 e2; subst e1; subst e2
            split at e
            · rename_i cs2 ez2 m hb2
              simp only [Option.some.injEq, Prod.mk.injEq] at e
              obtain ⟨rfl, rfl⟩ := e
              obtain ⟨k1, k2⟩ := give_ob c1.rel b i
              refine ⟨_, hp.trans c1.tr k1, k2, c1.h, ?_, .inl ⟨_, _, _, _, rfl, .inr ⟨Nat.succ_pos _, ?_⟩⟩⟩
              · intro C j hj
                exact (c1.kp C j).trans (KpB.give (w := isOb b) (rt' := X1.rt) (fun j => rfl) C j hj)
              · obtain ⟨B2, off2, acs2, cc2, prev2, g1, g2, g3, g4, g5, g6, g7, g8, g9⟩ := c1.rel.obj b cs2 ez2 hb2
                have := c1.tr.ob _ _ h1
                rw [g1] at this; injection this with this; injection this with e1 e2; subst e1; subst e2
                rw [c1.h, h5] at g5; injection g5 with g5; injection g5 with e1 e2 e3 e4; subst e1; subst e3; subst e4
                obtain ⟨hcap, _⟩ := hcap
                subst hcap
                refine ⟨B2, off2 + o, _, aq, cc, prev, rfl, Cx.give_eq g2 (by simp [isOb]), g4, by rw [show (X1.give (isOb b) i X1.rt).h = X1.h from rfl, c1.h]; exact h5, fun q hq => ?_, ⟨Nat.le_refl _, .inr ⟨rfl, by omega⟩⟩,
                  q1.tr k1, ⟨by rw [show (X1.give (isOb b) i X1.rt).h = X1.h from rfl, c1.h]; exact h3, cloL_ok q1 q2, cc, .rw, prev, ez + 1, by rw [show (X1.give (isOb b) i X1.rt).h = X1.h from rfl, c1.h]; exact h5, h6⟩, ⟨by omega, h6⟩, q2⟩
                obtain ⟨a1, a2, a3⟩ := g8 q hq
                exact ⟨a1, Cx.give_eq a2 (by simp [isOb]), a3⟩
            · simp only [Option.some.injEq, Prod.mk.injEq] at e
              obtain ⟨rfl, rfl⟩ := e
              exact viaClo c1 (.ls0 _ _ _ ⟨rfl, fun e => by cases e⟩) rfl
            · cases e
        · cases e
      · cases e
    · cases e
  · split at e
    · rename_i t x y σ1 h1
      simp only [Option.some.injEq, Prod.mk.injEq] at e
      obtain ⟨rfl, rfl⟩ := e
      cases hv with
      | ifc _ _ _ hv =>
        obtain ⟨X1, c1, v1, k1⟩ := clo_rel 8 h1 hp hv
        exact viaClo c1 (.ifc _ _ _ v1) k1
    · cases e
  · split at e
    · rename_i l1 l2 σ1 h1
      simp only [Option.some.injEq, Prod.mk.injEq] at e
      obtain ⟨rfl, rfl⟩ := e
      cases hv with
      | agg _ _ hv =>
        obtain ⟨X1, c1, v1, k1⟩ := mapC_rel (fun e hp hv => clo_rel 8 e hp hv) h1 hp hv
        exact viaClo c1 (.agg _ _ v1) k1
    · cases e
  · obtain ⟨X1, c1, v1, k1⟩ := clo_rel 8 e hp hv
    exact viaClo c1 v1 (resClo_of k1)

theorem givL_rel : ∀ {l l' : List PV} {al : List AV} {σ σ' : PH} {X : Cx} {i : Nat}, mapC giv1 σ l = some (l', σ') → PRel X σ → VRelL X l al →
    ∃ X', Tr X X' ∧ PRel X' σ' ∧ X'.h = X.h ∧ (∀ B j, j < i → (X.O B = some (.fr j) ↔ X'.O B = some (.fr j))) ∧ GRelL X' i l' al
  | [], _, _, σ, σ', X, i, e, hp, .nil => by
    simp only [mapC, Option.some.injEq, Prod.mk.injEq] at e
    obtain ⟨rfl, rfl⟩ := e
    exact ⟨X, .refl X, hp, rfl, fun _ _ _ => Iff.rfl, .nil i⟩
  | v :: l, _, _, σ, σ', X, i, e, hp, .cons _ a _ al hv hl => by
    simp only [mapC] at e
    split at e
    · rename_i y σ1 h1
      split at e
      · rename_i r σ2 h2
        simp only [Option.some.injEq, Prod.mk.injEq] at e
        obtain ⟨rfl, rfl⟩ := e
        obtain ⟨X1, a1, a2, a3, a4, a5⟩ := giv1_rel (i := i) h1 hp hv
        obtain ⟨X2, b1, b2, b3, b4, b5⟩ := givL_rel (i := i + 1) h2 a2 (hl.tr a1)
        refine ⟨X2, hp.trans a1 b1, b2, b3.trans a3, fun B j hj => (a4 B j (by omega)).trans (b4 B j (by omega)), .cons _ _ _ _ _ (a5.keep b1 (fun B _ => by rw [b3]) (fun B h => (b4 B i (by omega)).1 h) (fun B h => a2.own B _ h)) b5⟩
      · cases e
    · cases e

/-- The caller's, behind a call that had only lent values. -/
def Cx.back (X X1 : Cx) : Cx := ⟨X.ob, X.rb, X.rt, fun B => if B < X.h.n then X.O B else match X1.O B with
  | some (.fr i) => some (.fr i)
  | _ => none, X.G, X1.h⟩
section
variable (hp : PRel X σ) (k : Tr X.lent X1) (pown : ∀ B i, X1.O B = some (.fr i) → B < X1.h.n) (plim : X1.h.lim ≤ X1.h.n)
include k
theorem back_old {B : Nat} (hB : B < X.h.n) : X1.O B = none ∧ X1.h.get B = X.h.get B := k.fr B rfl hB
theorem back_fr {B i : Nat} (h : X1.O B = some (.fr i)) : X.h.n ≤ B ∧ (X.back X1).O B = some (.fr i) := by
  have hB : X.h.n ≤ B := by
    apply Classical.byContradiction
    intro hn
    have := (back_old k (B := B) (by omega)).1
    rw [h] at this; cases this
  refine ⟨hB, ?_⟩
  show (if B < X.h.n then X.O B else _) = _
  rw [if_neg (by omega), h]
include hp
theorem Tr.back : Tr X (X.back X1) := by
  refine .of (fun _ _ h => h) (fun B h hB => ⟨?_, (back_old k hB).2⟩) k.n rfl k.lim rfl fun r v x ez hr hx => ⟨rfl, (back_old k (hp.rb_lt r v x ez hr hx)).2⟩
  show (if B < X.h.n then X.O B else _) = none
  rw [if_pos hB]; exact h
theorem back_keep {B : Nat} {o : Owner} (h : X.O B = some o) : (X.back X1).O B = some o ∧ (X.back X1).h.get B = X.h.get B := by
  have hB := hp.own B o h
  refine ⟨?_, (back_old k hB).2⟩
  show (if B < X.h.n then X.O B else _) = some o
  rw [if_pos hB]; exact h
include pown plim
theorem PRel.back : PRel (X.back X1) σ := by
  have kb := Tr.back hp k
  have inv : ∀ {B : Nat} {o : Owner}, (X.back X1).O B = some o → X.O B = some o ∨ ∃ i, o = .fr i ∧ X1.O B = some (.fr i) := by
    intro B o h
    have h' : (if B < X.h.n then X.O B else match X1.O B with | some (.fr i) => some (.fr i) | _ => none) = some o := h
    split at h'
    · exact .inl h'
    · cases e : X1.O B with
      | none => rw [e] at h'; cases h'
      | some o' =>
        rw [e] at h'
        cases o' with
        | fr i => simp only at h'; injection h' with h'; exact .inr ⟨i, h'.symm, rfl⟩
        | ob b => cases h'
        | rt r => cases h'
  refine ⟨hp.rt, hp.dom, fun b cs ez h => (hp.obj b cs ez h).keep kb rfl (fun B hB => back_keep hp k hB), fun b es cl h => (hp.map b es cl h).keep kb rfl (fun B hB => back_keep hp k hB),
    fun r v x ez h hx => (hp.root r v x ez h hx).keep kb rfl rfl (fun B hB => back_keep hp k hB), fun B o h => ?_, fun B b h => ?_, fun B r h => ?_, fun B hB => hp.newG B (Nat.le_trans k.n hB), plim⟩
  · rcases inv h with h | ⟨i, _, h⟩
    · exact Nat.lt_of_lt_of_le (hp.own B o h) k.n
    · exact pown B i h
  · rcases inv h with h | ⟨i, e, _⟩
    · exact hp.ownb B b h
    · cases e
  · rcases inv h with h | ⟨i, e, _⟩
    · exact hp.ownr B r h
    · cases e
theorem Mv.back : Mv false X1 (X.back X1) := by
  intro B ho hB hG
  have hG := hG.resolve_left (by simp)
  rw [k.G] at hG
  have hG' : X.h.n ≤ B ∨ (X.O B = none ∧ X.G B) := hG
  refine ⟨?_, rfl, hB, fun _ => ?_⟩
  · show (if B < X.h.n then X.O B else _) = none
    split
    · rename_i hlt
      rcases hG' with h | h
      · omega
      · exact h.1
    · rw [ho]
  · rcases hG' with h | h
    · exact hp.newG B h
    · exact h.2
/-- Fresh, and behind the bound. -/
def ARel (X : Cx) (i : Nat) (v : PV) (a : AV) : Prop :=
  (∃ x ez n cs, v = .ls (.fresh x ez) n cs ∧ FreshOk X i x ez n cs a ∧ ∀ B, X.O B = some (.fr i) → X.h.lim ≤ B) ∨ ((∀ x ez n cs, v ≠ .ls (.fresh x ez) n cs) ∧ VRel X v a)
theorem ARel.back {i : Nat} (g : GRel X1 i v a) : (∃ x ez n cs, v = .ls (.fresh x ez) n cs ∧ FreshOk (X.back X1) i x ez n cs a) ∨ ((∀ x ez n cs, v ≠ .ls (.fresh x ez) n cs) ∧ VRel (X.back X1) v a) := by
  have mv := Mv.back hp k pown plim
  rcases g with ⟨x, ez, n, cs, e, f⟩ | ⟨h1, h2⟩
  · refine .inl ⟨x, ez, n, cs, e, ?_⟩
    rcases f with f | ⟨hx, B, oA, ac, acs, cc, prev, f1, f2, f3, f4, f5, f6, f7, f8, f9, f10⟩
    · exact .inl f
    · refine .inr ⟨hx, B, oA, ac, acs, cc, prev, f1, (back_fr k f2).2, hp.newG B (back_fr k f2).1, f4, fun q hq => ?_, f6, f7.move mv f10, f8, f9, f10⟩
      obtain ⟨a1, a2, a3⟩ := f5 q hq
      exact ⟨a1, (back_fr k a2).2, a3⟩
  · refine .inr ⟨?_, ?_⟩
    · rintro x ez n cs rfl; simp [resClo, isClo] at h1
    · cases v with
      | agg l => cases h2 with | agg _ _ h2 => exact .agg _ _ (h2.move mv h1)
      | ifc t x => cases h2 with | ifc _ _ _ h2 => exact .ifc _ _ _ (h2.move mv h1)
      | _ => exact h2.move mv h1
end
theorem back_lim {i B : Nat} (hp : PRel X σ) (hn : NoFr X) (k : Tr X.lent X1) (h : (X.back X1).O B = some (.fr i)) : (X.back X1).h.lim ≤ B := by
  have h' : (if B < X.h.n then X.O B else match X1.O B with | some (.fr i) => some (.fr i) | _ => none) = some (.fr i) := h
  have hl : X1.h.lim = X.h.lim := k.lim
  split at h'
  · exact absurd h' (hn B i)
  · show X1.h.lim ≤ B
    have := hp.lim; omega

/-! ## What becomes of fresh lists -/
theorem FreshOk.view {i x ez n : Nat} {cs : List PV} (f : FreshOk X i x ez n cs a) : VRel X.plain (.ls (.v false false) n cs) a := by
  have k := Tr.plain X
  rcases f with ⟨_, rfl, rfl, h⟩ | ⟨hx, B, oA, ac, acs, cc, prev, f1, f2, f3, f4, f5, f6, f7, f8, f9, f10⟩
  · exact .ls0 _ _ _ (zeroA_up h)
  · subst f1
    exact .lsv _ _ _ _ _ _ _ (.v _ _ _ acs _ _ (f7.tr k) f8 (by simp [Cx.plain, Cx.drop, f2]) (fun _ => f3) f10) (fun e => by cases e) f6.cap
structure Adj (X : Cx) (σ' : PH) (X' : Cx) (i : Nat) : Prop where
  tr : Tr X X'
  rel : PRel X' σ'
  h : X'.h = X.h
  kp : ∀ B j, j ≠ i → X.O B = some (.fr j) → X'.O B = some (.fr j)
  sub : ∀ B j, X'.O B = some (.fr j) → X.O B = some (.fr j)
theorem Adj.same (hp : PRel X σ) (i : Nat) : Adj X σ X i := ⟨.refl X, hp, rfl, fun _ _ _ h => h, fun _ _ h => h⟩
theorem relab_sub {i C j : Nat} {o : Owner} (ho : ∀ j, o ≠ .fr j) (h : relab X.O i o C = some (.fr j)) : X.O C = some (.fr j) := by
  rcases relab_inv h with ⟨_, e⟩ | h
  · exact absurd e.symm (ho j)
  · exact h
theorem adj1_rel {md : Mode} {i : Nat} (e : adj1 md σ v = some (v', σ')) (hp : PRel X σ) (hv : ARel X i v a) : ∃ X', Adj X σ' X' i ∧ VRel X' v' a := by
  have keep : ∀ {v' : PV} {σ' : PH}, some (v, σ) = some (v', σ') → (∀ x ez n cs, v ≠ .ls (.fresh x ez) n cs) → ∃ X', Adj X σ' X' i ∧ VRel X' v' a := by
    intro v' σ' e hne
    simp only [Option.some.injEq, Prod.mk.injEq] at e
    obtain ⟨rfl, rfl⟩ := e
    rcases hv with ⟨x, ez, n, cs, e, _⟩ | ⟨_, h⟩
    · exact absurd e (hne x ez n cs)
    · exact ⟨X, .same hp i, h⟩
  unfold adj1 at e
  split at e
  · rename_i x ez n cs
    have f : FreshOk X i x ez n cs a ∧ ∀ B, X.O B = some (.fr i) → X.h.lim ≤ B := by
      rcases hv with ⟨x', ez', n', cs', e, f⟩ | ⟨h, _⟩
      · injection e with e1 e2 e3; injection e1 with e4 e5; subst e2; subst e3; subst e4; subst e5; exact f
      · exact absurd rfl (h x ez n cs)
    obtain ⟨f, hlim⟩ := f
    have view : ∀ {v' : PV} {σ' : PH}, some (PV.ls (.v false false) n cs, σ) = some (v', σ') → ∃ X', Adj X σ' X' i ∧ VRel X' v' a := by
      intro v' σ' e
      simp only [Option.some.injEq, Prod.mk.injEq] at e
      obtain ⟨rfl, rfl⟩ := e
      refine ⟨X.drop fun o => match o with | .fr c => decide (c = i) | _ => false, ⟨.drop _, hp.left i, rfl, fun B j hj h => (Cx.drop_some h (by simp [hj])).1, fun B j h => Cx.drop_inv h⟩, ?_⟩
      have k := Tr.drop (X := X) fun o => match o with | .fr c => decide (c = i) | _ => false
      rcases f with ⟨_, rfl, rfl, h⟩ | ⟨hx, B, oA, ac, acs, cc, prev, f1, f2, f3, f4, f5, f6, f7, f8, f9, f10⟩
      · exact .ls0 _ _ _ (zeroA_up h)
      · subst f1
        exact .lsv _ _ _ _ _ _ _ (.v _ _ _ acs _ _ (f7.tr k) f8 (by simp [Cx.drop, f2]) (fun _ => f3) f10) (fun e => by cases e) f6.cap
    split at e
    · simp only [Option.some.injEq, Prod.mk.injEq] at e
      obtain ⟨rfl, rfl⟩ := e
      have hlen : X.rt.length = σ.rt.length := by rw [hp.rt]
      rcases f with ⟨rfl, rfl, rfl, hz⟩ | ⟨hx, B, oA, ac, acs, cc, prev, f1, f2, f3, f4, f5, f6, f7, f8, f9, f10⟩
      · obtain ⟨k1, k2⟩ := hp.root0 (v := 0) (ez := ez)
        refine ⟨_, ⟨k1, k2, rfl, fun B j _ h => h, fun B j h => h⟩, ?_⟩
        refine .lo0 _ _ _ (.inl ⟨ez, ?_⟩) ?_ hz
        · show getR (X.rt ++ [_]) σ.rt.length = _
          rw [getR_append, if_pos hlen.symm]
        · show σ.rt.length < (X.rt ++ [_]).length
          simp; omega
      · subst f1
        obtain ⟨k1, k2⟩ := hp.rooted (v := 0) (x := x) f2 f4 (hlim B f2) f3 (fun q hq => ⟨(f5 q hq).1, (f5 q hq).2.1, (f5 q hq).2.2, hlim q (f5 q hq).2.1⟩)
        refine ⟨_, ⟨k1, k2, rfl, fun C j hj h => relab_ne h (by simpa using hj), fun C j h => relab_sub (by simp) h⟩, ?_⟩
        have hg : getR (X.rooted i B (.live 0 x ez)).rt σ.rt.length = .live 0 x ez := by
          show getR (X.rt ++ [_]) σ.rt.length = _
          rw [getR_append, if_pos hlen.symm]
        have hrb : (X.rooted i B (.live 0 x ez)).rb σ.rt.length = B := by show (if _ then _ else _) = _; rw [if_pos hlen.symm]
        have key : VRel (X.rooted i B (.live 0 x ez)) (.ls (.own σ.rt.length 0) n cs) (.sl ((X.rooted i B (.live 0 x ez)).rb σ.rt.length) oA n ac) := by
          refine .lo _ _ x ez n cs oA ac cc prev hg hx (by rw [hrb]; exact f4) f6 (.live _ _ x ez _ acs _ hg hx (f7.tr k1) (by rw [hrb]; exact f8) f10)
        rw [hrb] at key; exact key
    · split at e
      · simp only [Option.some.injEq, Prod.mk.injEq] at e
        obtain ⟨rfl, rfl⟩ := e
        rcases f with ⟨_, _, _, h⟩ | ⟨hx, _⟩
        · rename_i hn0 _
          refine ⟨X, .same hp i, ?_⟩
          exact .ls0 _ _ _ (zeroA_up h)
        · omega
      · cases e
      · rename_i hx0 hez0
        simp only [Option.some.injEq, Prod.mk.injEq] at e
        obtain ⟨rfl, rfl⟩ := e
        rcases f with ⟨rfl, _⟩ | ⟨hx, B, oA, ac, acs, cc, prev, f1, f2, f3, f4, f5, f6, f7, f8, f9, f10⟩
        · exact absurd rfl hx0
        · subst f1
          have p := hp.named (ez := ez) f2 f4 (hlim B f2) f3 (fun q hq => ⟨(f5 q hq).1, (f5 q hq).2.1, (f5 q hq).2.2, hlim q (f5 q hq).2.1⟩) f9 f7
          refine ⟨_, ⟨.named hp i B oA, p, rfl, fun C j hj h => relab_ne h (by simpa using hj), fun C j h => relab_sub (by simp) h⟩, ?_⟩
          have := VRel.sl (X := X.named i σ.ob.length B oA) σ.ob.length 0 n none B oA ac (by show (if _ then _ else _) = _; rw [if_pos rfl]) f6.cap
          simpa using this
    · exact view e
  · rename_i b
    have hz : ∀ {X' : Cx}, VRel X' (.ls (.v b true) 0 []) a → zeroA true a := by
      intro X' h
      cases h with
      | ls0 _ _ _ h => exact h
      | lsv _ _ _ _ B oA ac _ ht _ => exact ⟨rfl, fun _ => ht rfl⟩
    split at e
    · simp only [Option.some.injEq, Prod.mk.injEq] at e
      obtain ⟨rfl, rfl⟩ := e
      rcases hv with ⟨_, _, _, _, e, _⟩ | ⟨_, hv⟩
      · cases e
      · have hlen : X.rt.length = σ.rt.length := by rw [hp.rt]
        rename_i e0 _
        obtain ⟨k1, k2⟩ := hp.root0 (v := 0) (ez := e0)
        refine ⟨_, ⟨k1, k2, rfl, fun B j _ h => h, fun B j h => h⟩, ?_⟩
        refine .lo0 _ _ _ (.inl ⟨e0, ?_⟩) ?_ (hz hv)
        · show getR (X.rt ++ [_]) σ.rt.length = _
          rw [getR_append, if_pos hlen.symm]
        · show σ.rt.length < (X.rt ++ [_]).length
          simp; omega
    · exact keep e (fun x ez n cs h => by cases h)
  · rename_i hne _
    exact keep e hne
theorem adjL_rel {md : Mode} : ∀ {l l' : List PV} {al : List AV} {σ σ' : PH} {X : Cx} {i : Nat}, mapC (adj1 md) σ l = some (l', σ') → PRel X σ →
    (∀ (j : Nat) (v : PV) (a : AV), l[j]? = some v → al[j]? = some a → ARel X (i + j) v a) → l.length = al.length → ∃ X', Tr X X' ∧ PRel X' σ' ∧ X'.h = X.h ∧ VRelL X' l' al
  | [], _, al, σ, σ', X, i, e, hp, hl, hlen => by
    simp only [mapC, Option.some.injEq, Prod.mk.injEq] at e
    obtain ⟨rfl, rfl⟩ := e
    have : al = [] := by simpa using hlen.symm
    subst this
    exact ⟨X, .refl X, hp, rfl, .nil⟩
  | v :: l, _, [], σ, σ', X, i, e, hp, hl, hlen => by simp at hlen
  | v :: l, _, a :: al, σ, σ', X, i, e, hp, hl, hlen => by
    simp only [mapC] at e
    split at e
    · rename_i y σ1 h1
      split at e
      · rename_i r σ2 h2
        simp only [Option.some.injEq, Prod.mk.injEq] at e
        obtain ⟨rfl, rfl⟩ := e
        obtain ⟨X1, a1, a2⟩ := adj1_rel (i := i) h1 hp (by simpa using hl 0 v a rfl rfl)
        obtain ⟨X2, b1, b2, b3, b4⟩ := adjL_rel (i := i + 1) h2 a1.rel (fun j v' a' h3 h4 => by
          have := hl (j + 1) v' a' (by simpa using h3) (by simpa using h4)
          have e : i + (j + 1) = i + 1 + j := by omega
          rw [e] at this
          rcases this with ⟨x, ez, n, cs, e, f, g⟩ | ⟨f, g⟩
          · refine .inl ⟨x, ez, n, cs, e, f.keep a1.tr (fun B _ => by rw [a1.h]) (fun B h => a1.kp B _ (by omega) h) (fun B h => hp.own B _ h), fun B h => ?_⟩
            rw [a1.h]; exact g B (a1.sub B _ h)
          · exact .inr ⟨f, g.tr a1.tr⟩) (by simpa using hlen)
        exact ⟨X2, hp.trans a1.tr b1, b2, b3.trans a1.h, .cons _ _ _ _ (a2.tr b1) b4⟩
      · cases e
    · cases e
end Go.Av
