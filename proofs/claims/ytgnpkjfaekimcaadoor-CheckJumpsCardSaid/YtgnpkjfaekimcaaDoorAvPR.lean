/- How the second machine's values and memory stand to the first one's. -/
import Derived.Test.YtgnpkjfaekimcaaDoorAvP
import Derived.Test.YtgnpkjfaekimcaaDoorAvRel
set_option linter.unusedVariables false
set_option linter.unusedSimpArgs false
set_option linter.unusedSectionVars false
namespace Go.Av

inductive Owner where
  | ob (b : Nat) | rt (r : Nat) | fr (i : Nat)

structure Cx where
  ob : Nat → Option (Nat × Nat)
  rb : Nat → Nat
  rt : List Root
  O : Nat → Option Owner
  G : Nat → Prop
  h : AHeap

/-- These cells lie there. -/
def Cont (h : AHeap) (B o : Nat) (acs : List AV) : Prop :=
  B < h.n ∧ okCells acs = true ∧ ∃ cc st prev ez, h.get B = some (.cells cc st prev ez) ∧ sub cc o acs.length = some acs
def zeroA (ti : Bool) : AV → Prop
  | .nils => True
  | .sl _ _ n c => n = 0 ∧ (ti = true → c = .k 0)
  | _ => False
theorem zeroA_ok {ti : Bool} {a : AV} (h : zeroA ti a) : a.okCell = true := by cases a <;> first | rfl | cases h
def CapR (n : Nat) (c : Option Nat) (ac : ACap) : Prop :=
  match c with
  | some k => ac = .k k ∧ n ≤ k
  | none => ∀ k, ac = .k k → n ≤ k
/-- What room there is behind a list that may be appended to. -/
def Room (ac : ACap) (o x ez len n : Nat) : Prop := n ≤ x ∧ ((∃ e, ac = .u e ∧ o = e * ez ∧ len = o + x * ez) ∨ (ac = .k x ∧ o + x * ez ≤ len))
def Stale (rt : List Root) (r v : Nat) : Prop :=
  r < rt.length ∧ match getR rt r with
  | .live v' _ _ => v < v'
  | .shut v' => v ≠ v'
  | .gone => True

mutual
inductive VRel (X : Cx) : PV → AV → Prop
  | und (a : AV) : VRel X .und a
  | b (x : Bool) : VRel X (.b x) (.b x)
  | i (k : IntKind) (n : Int) : VRel X (.i k n) (.i k n)
  | s (x : List UInt8) : VRel X (.s x) (.s x)
  | nilp : VRel X .nilp .nilp
  | p (b o B off : Nat) (h : X.ob b = some (B, off)) : VRel X (.p b o) (.p B (off + o))
  | pls (t : Tag) (cs : List PV) (o B oA : Nat) (h : CRel X t cs B oA) : VRel X (.pls t cs o) (.p B (oA + o))
  | plsx (r v : Nat) (cs : List PV) (o : Nat) (a : AV) (h : Stale X.rt r v) (ha : a.okCell = true) : VRel X (.pls (.own r v) cs o) a
  | sl (b o n : Nat) (c : Option Nat) (B off : Nat) (ac : ACap) (h : X.ob b = some (B, off)) (hc : CapR n c ac) : VRel X (.sl b o n c) (.sl B (off + o) n ac)
  | ls0 (bo ti : Bool) (a : AV) (h : zeroA ti a) : VRel X (.ls (.v bo ti) 0 []) a
  | lsv (bo ti : Bool) (n : Nat) (cs : List PV) (B oA : Nat) (ac : ACap) (h : CRel X (.v bo ti) cs B oA) (ht : ti = true → ac = .k n) (hn : ∀ k, ac = .k k → n ≤ k) : VRel X (.ls (.v bo ti) n cs) (.sl B oA n ac)
  | lo0 (r v : Nat) (a : AV) (h : (∃ ez, getR X.rt r = .live v 0 ez) ∨ getR X.rt r = .shut v) (hr : r < X.rt.length) (hz : zeroA true a) : VRel X (.ls (.own r v) 0 []) a
  | lo (r v x ez n : Nat) (cs : List PV) (oA : Nat) (ac : ACap) (cc : List AV) (prev : List Nat) (hr : getR X.rt r = .live v x ez) (hx : 0 < x) (hg : X.h.get (X.rb r) = some (.cells cc .rw prev ez)) (hm : Room ac oA x ez cc.length n)
      (h : CRel X (.own r v) cs (X.rb r) oA) : VRel X (.ls (.own r v) n cs) (.sl (X.rb r) oA n ac)
  | lsh (r v n : Nat) (cs : List PV) (B oA : Nat) (ac : ACap) (hr : getR X.rt r = .shut v) (h : CRel X (.own r v) cs B oA) (hn : ∀ k, ac = .k k → n ≤ k) : VRel X (.ls (.own r v) n cs) (.sl B oA n ac)
  | lx (r v n : Nat) (cs : List PV) (a : AV) (h : Stale X.rt r v) (ha : a.okCell = true) : VRel X (.ls (.own r v) n cs) a
  | nilm : VRel X .nilm .nilm
  | m (b B : Nat) (h : X.ob b = some (B, 0)) : VRel X (.m b) (.m B)
  | nilf : VRel X .nilf .nilf
  | f (fn : Nat) (fi ca : List PV) (fi' ca' : List AV) (h1 : VRelL X fi fi') (h2 : VRelL X ca ca') : VRel X (.f fn fi ca) (.f fn fi' ca')
  | nili : VRel X .nili .nili
  | ifc (t : Nat) (v : PV) (a : AV) (h : VRel X v a) : VRel X (.ifc t v) (.ifc t a)
  | agg (l : List PV) (a : List AV) (h : VRelL X l a) : VRel X (.agg l) (.agg a)
  | tup (l : List PV) (a : List AV) (h : VRelL X l a) : VRel X (.tup l) (.tup a)
inductive VRelL (X : Cx) : List PV → List AV → Prop
  | nil : VRelL X [] []
  | cons (v : PV) (a : AV) (l : List PV) (r : List AV) (h : VRel X v a) (hl : VRelL X l r) : VRelL X (v :: l) (a :: r)
/-- A list's cells: where they lie. -/
inductive CRel (X : Cx) : Tag → List PV → Nat → Nat → Prop
  | v (bo ti : Bool) (cs : List PV) (acs : List AV) (B oA : Nat) (hl : VRelL X cs acs) (hc : Cont X.h B oA acs) (ho : X.O B = none) (hg : bo = false → X.G B) (hk : cloL bo cs = true) : CRel X (.v bo ti) cs B oA
  | live (r v x ez : Nat) (cs : List PV) (acs : List AV) (oA : Nat) (hr : getR X.rt r = .live v x ez) (hx : 0 < x) (hl : VRelL X cs acs) (hc : Cont X.h (X.rb r) oA acs) (hk : cloL false cs = true) : CRel X (.own r v) cs (X.rb r) oA
  | shut (r v : Nat) (cs : List PV) (acs : List AV) (B oA : Nat) (hr : getR X.rt r = .shut v) (hl : VRelL X cs acs) (hc : Cont X.h B oA acs) (ho : X.O B = none) (hg : X.G B) (hk : cloL false cs = true) : CRel X (.own r v) cs B oA
end

variable {X X' Y : Cx} {v : PV} {a : AV} {l : List PV} {r : List AV} {h h' : AHeap}

theorem VRelL.length : ∀ {l : List PV} {r : List AV}, VRelL X l r → l.length = r.length
  | _, _, .nil => rfl
  | _, _, .cons _ _ _ _ _ hl => by simp [hl.length]
theorem VRelL.get : ∀ {l : List PV} {r : List AV}, VRelL X l r → ∀ (i : Nat) (v : PV), l[i]? = some v → ∃ a, r[i]? = some a ∧ VRel X v a
  | _, _, .nil, i, v, e => by simp at e
  | _, _, .cons x y l r hx hl, i, v, e => by
    cases i with
    | zero => simp at e; subst e; exact ⟨y, rfl, hx⟩
    | succ i => simpa using hl.get i v (by simpa using e)
theorem VRelL.append : ∀ {l : List PV} {r : List AV} {l2 : List PV} {r2 : List AV}, VRelL X l r → VRelL X l2 r2 → VRelL X (l ++ l2) (r ++ r2)
  | _, _, _, _, .nil, h2 => h2
  | _, _, _, _, .cons x y l r hx hl, h2 => .cons x y _ _ hx (hl.append h2)
theorem VRelL.drop : ∀ {l : List PV} {r : List AV}, VRelL X l r → ∀ n, VRelL X (l.drop n) (r.drop n)
  | _, _, .nil, n => by simp; exact .nil
  | _, _, .cons x y l r hx hl, n => by
    cases n with
    | zero => exact .cons x y l r hx hl
    | succ n => simpa using hl.drop n
theorem VRelL.take : ∀ {l : List PV} {r : List AV}, VRelL X l r → ∀ n, VRelL X (l.take n) (r.take n)
  | _, _, .nil, n => by simp; exact .nil
  | _, _, .cons x y l r hx hl, n => by
    cases n with
    | zero => exact .nil
    | succ n => simpa using .cons x y _ _ hx (hl.take n)

/-- What is closed stays, where what it lies in stays. -/
def Mv (bo : Bool) (X X' : Cx) : Prop :=
  ∀ B, X.O B = none → B < X.h.n → (bo = true ∨ X.G B) → X'.O B = none ∧ X'.h.get B = X.h.get B ∧ B < X'.h.n ∧ (X.G B → X'.G B)
theorem Mv.weak {bo : Bool} (k : Mv bo X X') : Mv false X X' := fun B h1 h2 h3 => k B h1 h2 (by
  rcases h3 with h | h
  · cases h
  · exact .inr h)
theorem Cont.same {B o : Nat} {acs : List AV} (k : Cont h B o acs) (hg : h'.get B = h.get B) (hn : B < h'.n) : Cont h' B o acs := by
  obtain ⟨h1, h2, cc, st, prev, ez, h3, h4⟩ := k
  exact ⟨hn, h2, cc, st, prev, ez, by rw [hg]; exact h3, h4⟩
mutual
theorem VRel.move {bo : Bool} (k : Mv bo X X') : ∀ {v : PV} {a : AV}, VRel X v a → isClo bo v = true → VRel X' v a
  | _, _, .und a, hc => by simp [isClo] at hc
  | _, _, .b x, _ => .b x
  | _, _, .i t n, _ => .i t n
  | _, _, .s x, _ => .s x
  | _, _, .nilp, _ => .nilp
  | _, _, .p b o B off h, hc => by simp [isClo] at hc
  | _, _, .pls t cs o B oA h, hc => by simp [isClo] at hc
  | _, _, .plsx r v cs o a h ha, hc => by simp [isClo] at hc
  | _, _, .sl b o n c B off ac h h', hc => by simp [isClo] at hc
  | _, _, .ls0 b t a h, _ => .ls0 b t a h
  | _, _, .lsv b t n cs B oA ac h ht hn, hc => .lsv b t n cs B oA ac (CRel.move k h (by simpa [isClo] using hc)) ht hn
  | _, _, .lo0 r v a h hr hz, hc => by simp [isClo] at hc
  | _, _, .lo r v x ez n cs oA ac cc prev hr hx hg hm h, hc => by simp [isClo] at hc
  | _, _, .lsh r v n cs B oA ac hr h hn, hc => by simp [isClo] at hc
  | _, _, .lx r v n cs a h ha, hc => by simp [isClo] at hc
  | _, _, .nilm, _ => .nilm
  | _, _, .m b B h, hc => by simp [isClo] at hc
  | _, _, .nilf, _ => .nilf
  | _, _, .f fn fi ca fi' ca' h1 h2, hc => by
    cases h1 with
    | cons => simp [isClo] at hc
    | nil => cases h2 with
      | cons => simp [isClo] at hc
      | nil => exact .f fn [] [] [] [] .nil .nil
  | _, _, .nili, _ => .nili
  | _, _, .ifc t v a h, hc => by simp [isClo] at hc
  | _, _, .agg l a h, hc => by simp [isClo] at hc
  | _, _, .tup l a h, hc => by simp [isClo] at hc
theorem VRelL.move {bo : Bool} (k : Mv bo X X') : ∀ {l : List PV} {r : List AV}, VRelL X l r → cloL bo l = true → VRelL X' l r
  | _, _, .nil, _ => .nil
  | _, _, .cons x y l r hx hl, hc => by
    simp only [cloL, Bool.and_eq_true] at hc
    exact .cons x y l r (VRel.move k hx hc.1) (VRelL.move k hl hc.2)
theorem CRel.move {bo : Bool} (k : Mv bo X X') : ∀ {b t : Bool} {cs : List PV} {B oA : Nat}, CRel X (.v b t) cs B oA → (bo = true ∨ b = false) → CRel X' (.v b t) cs B oA
  | b, _, _, _, _, .v _ _ cs acs B oA hl hc ho hg hk, hb => by
    have hB : bo = true ∨ X.G B := by
      rcases hb with e | e
      · exact .inl e
      · exact .inr (hg e)
    obtain ⟨h1, h2, h3, h4⟩ := k B ho hc.1 hB
    refine .v _ _ cs acs B oA ?_ (hc.same h2 h3) h1 (fun e => h4 (hg e)) hk
    cases b with
    | false => exact VRelL.move (bo := false) k.weak hl hk
    | true =>
      have : bo = true := by rcases hb with e | e <;> first | exact e | cases e
      subst this
      exact VRelL.move k hl hk
end

/-- What a root may become. -/
def RTr (X X' : Cx) (r : Nat) : Prop :=
  match getR X.rt r with
  | .gone => getR X'.rt r = .gone
  | .shut v => getR X'.rt r = .shut v
  | .live v x ez => (getR X'.rt r = .live v x ez ∧ (0 < x → X'.rb r = X.rb r ∧ X'.h.get (X.rb r) = X.h.get (X.rb r))) ∨
    (getR X'.rt r = .shut v ∧ (0 < x → X'.h.get (X.rb r) = X.h.get (X.rb r) ∧ X'.O (X.rb r) = none ∧ X.G (X.rb r))) ∨
    (match getR X'.rt r with
      | .gone => True
      | .shut v' => v < v'
      | .live v' _ _ => v < v')
structure TrC (X X' : Cx) : Prop where
  ob : ∀ b q, X.ob b = some q → X'.ob b = some q
  fr : ∀ B, X.O B = none → B < X.h.n → X'.O B = none ∧ X'.h.get B = X.h.get B
  n : X.h.n ≤ X'.h.n
  G : X'.G = X.G
  rl : X.rt.length ≤ X'.rt.length
  rts : ∀ r, r < X.rt.length → RTr X X' r
structure Tr (X X' : Cx) : Prop extends TrC X X' where
  lim : X'.h.lim = X.h.lim
theorem Tr.mk' (ob : ∀ b q, X.ob b = some q → X'.ob b = some q) (fr : ∀ B, X.O B = none → B < X.h.n → X'.O B = none ∧ X'.h.get B = X.h.get B)
    (n : X.h.n ≤ X'.h.n) (G : X'.G = X.G) (lim : X'.h.lim = X.h.lim) (rl : X.rt.length ≤ X'.rt.length) (rts : ∀ r, r < X.rt.length → RTr X X' r) : Tr X X' := ⟨⟨ob, fr, n, G, rl, rts⟩, lim⟩

theorem getR_lt {l : List Root} {r : Nat} {y : Root} (h : getR l r = y) (hy : y ≠ .gone) : r < l.length := by
  induction l generalizing r with
  | nil => simp [getR] at h; exact absurd h.symm hy
  | cons x l ih =>
    cases r with
    | zero => simp
    | succ r => simp only [getR] at h; have := ih h; simp; omega
theorem Stale.tr {r v : Nat} (k : TrC X X') (h : Stale X.rt r v) : Stale X'.rt r v := by
  obtain ⟨h1, h2⟩ := h
  have h3 := k.rts r h1
  refine ⟨Nat.lt_of_lt_of_le h1 k.rl, ?_⟩
  unfold RTr at h3
  cases e : getR X.rt r with
  | gone => rw [e] at h3; simp only at h3; rw [h3]; trivial
  | shut v' => rw [e] at h2 h3; simp only at h2 h3; rw [h3]; exact h2
  | live v' x ez =>
    rw [e] at h2 h3; simp only at h2 h3
    rcases h3 with ⟨h4, _⟩ | ⟨h4, _⟩ | h4
    · rw [h4]; exact h2
    · rw [h4]; simp only; omega
    · cases e' : getR X'.rt r with
      | gone => trivial
      | shut v'' => rw [e'] at h4; simp only at h4 ⊢; omega
      | live v'' _ _ => rw [e'] at h4; simp only at h4 ⊢; omega
theorem stale_of {r v : Nat} (hr : r < X'.rt.length) (h : match getR X'.rt r with
      | .gone => True
      | .shut v' => v < v'
      | .live v' _ _ => v < v') : Stale X'.rt r v := by
  refine ⟨hr, ?_⟩
  cases e : getR X'.rt r with
  | gone => trivial
  | shut v' => rw [e] at h; simp only at h ⊢; omega
  | live v' _ _ => rw [e] at h; exact h

mutual
theorem VRel.trc (k : TrC X X') : ∀ {v : PV} {a : AV}, VRel X v a → VRel X' v a
  | _, _, .und a => .und a
  | _, _, .b x => .b x
  | _, _, .i t n => .i t n
  | _, _, .s x => .s x
  | _, _, .nilp => .nilp
  | _, _, .p b o B off h => .p b o B off (k.ob _ _ h)
  | _, _, .pls t cs o B oA h => by
    rcases CRel.trc k h with h | ⟨r, v, e, hs⟩
    · exact .pls t cs o B oA h
    · subst e; exact .plsx r v cs o _ hs rfl
  | _, _, .plsx r v cs o a h ha => .plsx r v cs o a (h.tr k) ha
  | _, _, .sl b o n c B off ac h hc => .sl b o n c B off ac (k.ob _ _ h) hc
  | _, _, .ls0 bo ti a h => .ls0 bo ti a h
  | _, _, .lsv bo ti n cs B oA ac h ht hn => by
    rcases CRel.trc k h with h | ⟨r, v, e, hs⟩
    · exact .lsv bo ti n cs B oA ac h ht hn
    · cases e
  | _, _, .lo0 r v a h hr hz => by
    have h3 := k.rts r hr
    have hr' := Nat.lt_of_lt_of_le hr k.rl
    unfold RTr at h3
    rcases h with ⟨ez, e⟩ | e
    · rw [e] at h3; simp only at h3
      rcases h3 with ⟨h4, _⟩ | ⟨h4, _⟩ | h4
      · exact .lo0 r v a (.inl ⟨ez, h4⟩) hr' hz
      · exact .lo0 r v a (.inr h4) hr' hz
      · exact .lx r v 0 [] a (stale_of hr' h4) (zeroA_ok hz)
    · rw [e] at h3; simp only at h3
      exact .lo0 r v a (.inr h3) hr' hz
  | _, _, .lo r v x ez n cs oA ac cc prev hr hx hg hm h => by
    have hlt := getR_lt hr (by simp)
    have h3 := k.rts r hlt
    unfold RTr at h3
    rw [hr] at h3; simp only at h3
    rcases h3 with ⟨h4, h5⟩ | ⟨h4, h5⟩ | h4
    · obtain ⟨h6, h7⟩ := h5 hx
      rcases CRel.trc k h with h | ⟨r', v', e, hs⟩
      · rw [← h6] at h ⊢
        exact .lo r v x ez n cs oA ac cc prev h4 hx (by rw [h6, h7]; exact hg) hm h
      · injection e with e1 e2; subst e1; subst e2; exact .lx r v n cs _ hs rfl
    · rcases CRel.trc k h with h | ⟨r', v', e, hs⟩
      · refine .lsh r v n cs _ oA ac h4 h fun q hq => ?_
        rcases hm.2 with ⟨e, h8, _⟩ | ⟨h8, _⟩
        · rw [h8] at hq; cases hq
        · rw [h8] at hq; injection hq with hq; subst hq; exact hm.1
      · injection e with e1 e2; subst e1; subst e2; exact .lx r v n cs _ hs rfl
    · exact .lx r v n cs _ (stale_of (Nat.lt_of_lt_of_le hlt k.rl) h4) rfl
  | _, _, .lsh r v n cs B oA ac hr h hn => by
    have hlt := getR_lt hr (by simp)
    have h3 := k.rts r hlt
    unfold RTr at h3
    rw [hr] at h3; simp only at h3
    rcases CRel.trc k h with h | ⟨r', v', e, hs⟩
    · exact .lsh r v n cs B oA ac h3 h hn
    · injection e with e1 e2; subst e1; subst e2; exact .lx r v n cs _ hs rfl
  | _, _, .lx r v n cs a h ha => .lx r v n cs a (h.tr k) ha
  | _, _, .nilm => .nilm
  | _, _, .m b B h => .m b B (k.ob _ _ h)
  | _, _, .nilf => .nilf
  | _, _, .f fn fi ca fi' ca' h1 h2 => .f fn fi ca fi' ca' (VRelL.trc k h1) (VRelL.trc k h2)
  | _, _, .nili => .nili
  | _, _, .ifc t v a h => .ifc t v a (VRel.trc k h)
  | _, _, .agg l a h => .agg l a (VRelL.trc k h)
  | _, _, .tup l a h => .tup l a (VRelL.trc k h)
theorem VRelL.trc (k : TrC X X') : ∀ {l : List PV} {r : List AV}, VRelL X l r → VRelL X' l r
  | _, _, .nil => .nil
  | _, _, .cons x y l r hx hl => .cons x y l r (VRel.trc k hx) (VRelL.trc k hl)
theorem CRel.trc (k : TrC X X') : ∀ {t : Tag} {cs : List PV} {B oA : Nat}, CRel X t cs B oA → CRel X' t cs B oA ∨ ∃ r v, t = .own r v ∧ Stale X'.rt r v
  | _, _, _, _, .v bo ti cs acs B oA hl hc ho hg hk => by
    obtain ⟨h1, h2⟩ := k.fr B ho hc.1
    exact .inl (.v bo ti cs acs B oA (VRelL.trc k hl) (hc.same h2 (Nat.lt_of_lt_of_le hc.1 k.n)) h1 (fun e => by rw [k.G]; exact hg e) hk)
  | _, _, _, _, .live r v x ez cs acs oA hr hx hl hc hk => by
    have hlt := getR_lt hr (by simp)
    have h3 := k.rts r hlt
    unfold RTr at h3
    rw [hr] at h3; simp only at h3
    rcases h3 with ⟨h4, h5⟩ | ⟨h4, h5⟩ | h4
    · obtain ⟨h6, h7⟩ := h5 hx
      have := hc.same h7 (Nat.lt_of_lt_of_le hc.1 k.n)
      rw [← h6] at this ⊢
      exact .inl (.live r v x ez cs acs oA h4 hx (VRelL.trc k hl) this hk)
    · obtain ⟨h6, h7, h8⟩ := h5 hx
      exact .inl (.shut r v cs acs _ oA h4 (VRelL.trc k hl) (hc.same h6 (Nat.lt_of_lt_of_le hc.1 k.n)) h7 (by rw [k.G]; exact h8) hk)
    · exact .inr ⟨r, v, rfl, stale_of (Nat.lt_of_lt_of_le hlt k.rl) h4⟩
  | _, _, _, _, .shut r v cs acs B oA hr hl hc ho hg hk => by
    have hlt := getR_lt hr (by simp)
    have h3 := k.rts r hlt
    unfold RTr at h3
    rw [hr] at h3; simp only at h3
    obtain ⟨h1, h2⟩ := k.fr B ho hc.1
    exact .inl (.shut r v cs acs B oA h3 (VRelL.trc k hl) (hc.same h2 (Nat.lt_of_lt_of_le hc.1 k.n)) h1 (by rw [k.G]; exact hg) hk)
end
theorem VRel.tr (k : Tr X X') (h : VRel X v a) : VRel X' v a := h.trc k.toTrC
theorem VRelL.tr (k : Tr X X') (h : VRelL X l r) : VRelL X' l r := h.trc k.toTrC

theorem RTr.refl (X : Cx) (r : Nat) : RTr X X r := by
  unfold RTr
  cases e : getR X.rt r with
  | gone => rfl
  | shut v => rfl
  | live v x ez => exact .inl ⟨rfl, fun _ => ⟨rfl, rfl⟩⟩
theorem Tr.refl (X : Cx) : Tr X X := Tr.mk' (fun _ _ h => h) (fun _ h _ => ⟨h, rfl⟩) (Nat.le_refl _) rfl rfl (Nat.le_refl _) (fun r _ => .refl X r)
theorem Tr.trans (k1 : Tr X Y) (k2 : Tr Y X') (hb : ∀ r v x ez, getR X.rt r = .live v x ez → 0 < x → X.rb r < X.h.n) : Tr X X' := by
  refine Tr.mk' (fun b q h => k2.ob _ _ (k1.ob _ _ h)) (fun B h1 h2 => ?_) (Nat.le_trans k1.n k2.n) (k2.G.trans k1.G) (k2.lim.trans k1.lim) (Nat.le_trans k1.rl k2.rl) (fun r hr => ?_)
  · obtain ⟨h3, h4⟩ := k1.fr B h1 h2
    obtain ⟨h5, h6⟩ := k2.fr B h3 (Nat.lt_of_lt_of_le h2 k1.n)
    exact ⟨h5, h6.trans h4⟩
  · have e1 := k1.rts r hr
    have e2 := k2.rts r (Nat.lt_of_lt_of_le hr k1.rl)
    unfold RTr at e1 e2 ⊢
    cases e : getR X.rt r with
    | gone => rw [e] at e1; simp only at e1 ⊢; rw [e1] at e2; exact e2
    | shut v => rw [e] at e1; simp only at e1 ⊢; rw [e1] at e2; exact e2
    | live v x ez =>
      rw [e] at e1; simp only at e1 ⊢
      rcases e1 with ⟨h1, h2⟩ | ⟨h1, h2⟩ | h1
      · rw [h1] at e2; simp only at e2
        rcases e2 with ⟨h3, h4⟩ | ⟨h3, h4⟩ | h3
        · refine .inl ⟨h3, fun hx => ?_⟩
          obtain ⟨a1, a2⟩ := h2 hx
          obtain ⟨a3, a4⟩ := h4 hx
          exact ⟨a3.trans a1, by rw [a1] at a4; exact a4.trans a2⟩
        · refine .inr (.inl ⟨h3, fun hx => ?_⟩)
          obtain ⟨a1, a2⟩ := h2 hx
          obtain ⟨a3, a4, a5⟩ := h4 hx
          rw [a1] at a3 a4 a5
          exact ⟨a3.trans a2, a4, by rw [k1.G] at a5; exact a5⟩
        · exact .inr (.inr h3)
      · rw [h1] at e2; simp only at e2
        refine .inr (.inl ⟨e2, fun hx => ?_⟩)
        obtain ⟨a1, a2, a3⟩ := h2 hx
        have hlt : X.rb r < Y.h.n := Nat.lt_of_lt_of_le (hb r v x ez e hx) k1.n
        obtain ⟨a4, a5⟩ := k2.fr _ a2 hlt
        exact ⟨a5.trans a1, a4, a3⟩
      · refine .inr (.inr ?_)
        cases f : getR Y.rt r with
        | gone => rw [f] at e2; simp only at e2; rw [e2]; trivial
        | shut v' => rw [f] at e2 h1; simp only at e2 h1; rw [e2]; exact h1
        | live v' x' ez' =>
          rw [f] at e2 h1; simp only at e2 h1
          rcases e2 with ⟨h3, _⟩ | ⟨h3, _⟩ | h3
          · rw [h3]; exact h1
          · rw [h3]; exact h1
          · cases g : getR X'.rt r with
            | gone => trivial
            | shut v'' => rw [g] at h3; simp only at h3 ⊢; omega
            | live v'' _ _ => rw [g] at h3; simp only at h3 ⊢; omega
end Go.Av
