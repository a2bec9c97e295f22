/- The second machine's code stands for the first one's. -/
import Derived.Test.YtgnpkjfaekimcaaDoorAvPO6
import Derived.Test.YtgnpkjfaekimcaaDoorAvKeep
set_option linter.unusedVariables false
set_option linter.unusedSimpArgs false
set_option linter.unusedSectionVars false
namespace Go.Av
variable {X X' X1 Y : Cx} {σ σ' : PH} {v v' : PV} {a : AV} {l l' : List PV} {r al : List AV} {h h' : AHeap} {rs vs : List PV} {ars avs : List AV}

abbrev ACall := Nat → List AV → AHeap → Option (AV × AHeap)
def CallRel (pc : PCall) (ac : ACall) : Prop :=
  ∀ ⦃f : Nat⦄ ⦃as : List PV⦄ ⦃σ : PH⦄ ⦃v : PV⦄ ⦃σ' : PH⦄ ⦃X : Cx⦄ ⦃aas : List AV⦄, pc f as σ = some (v, σ') → PRel X σ → NoFr X → VRelL X as aas →
    ∃ a X', ac f aas X.h = some (a, X'.h) ∧ Tr X X' ∧ PRel X' σ' ∧ NoFr X' ∧ VRel X' v a

/-- Results ahead of what is done with their fresh lists. -/
def BRes (X : Cx) (v : PV) (a : AV) : Prop :=
  (∃ l al, v = .tup l ∧ a = .tup al ∧ l.length = al.length ∧ ∀ (j : Nat) (v : PV) (a : AV), l[j]? = some v → al[j]? = some a → ARel X j v a) ∨ ((∀ l, v ≠ .tup l) ∧ ARel X 0 v a)
theorem BRes.of (hv : VRel X v a) : BRes X v a := by
  by_cases h : ∃ l, v = .tup l
  · obtain ⟨l, rfl⟩ := h
    cases hv with
    | tup _ al hl =>
      refine .inl ⟨l, al, rfl, rfl, hl.length, fun j v a h1 h2 => ?_⟩
      obtain ⟨a', h3, h4⟩ := hl.get j v h1
      rw [h2] at h3; injection h3 with h3; subst h3
      exact .of j h4
  · exact .inr ⟨fun l e => h ⟨l, e⟩, .of 0 hv⟩
theorem BRes.ofA (hv : ARel X 0 v a) : BRes X v a := by
  rcases hv with h | ⟨_, h⟩
  · obtain ⟨x, ez, n, cs, rfl, h⟩ := h
    exact .inr ⟨(fun l e => by cases e), .inl ⟨x, ez, n, cs, rfl, h⟩⟩
  · exact .of h
theorem adj_rel {md : Mode} (e : adj md σ v = some (v', σ')) (hp : PRel X σ) (hv : BRes X v a) : ∃ X', X'.h = X.h ∧ Tr X X' ∧ PRel X' σ' ∧ NoFr X' ∧ VRel X' v' a := by
  have fin : ∀ {X' : Cx} {v' : PV}, X'.h = X.h → Tr X X' → PRel X' σ' → VRel X' v' a → ∃ X', X'.h = X.h ∧ Tr X X' ∧ PRel X' σ' ∧ NoFr X' ∧ VRel X' v' a := fun h1 h2 h3 h4 =>
    ⟨Cx.plain _, h1, hp.trans h2 (Tr.plain _), h3.plain, NoFr.plain, h4.tr (Tr.plain _)⟩
  rcases hv with ⟨l, al, rfl, rfl, hlen, hl⟩ | ⟨hne, hv⟩
  · simp only [adj] at e
    split at e
    · rename_i l' σ1 h1
      simp only [Option.some.injEq, Prod.mk.injEq] at e; obtain ⟨rfl, rfl⟩ := e
      obtain ⟨X', a1, a2, a3, a4⟩ := adjL_rel (i := 0) h1 hp (by simpa using hl) hlen
      exact fin a3 a1 a2 (.tup _ _ a4)
    · cases e
  · unfold adj at e
    split at e
    · exact absurd rfl (hne _)
    · obtain ⟨X', a1, a2⟩ := adj1_rel (i := 0) e hp hv
      exact fin a1.h a1.tr a1.rel a2

theorem withLim_self (h : AHeap) : h.withLim h.lim = h := rfl
theorem withLim_withLim (h : AHeap) (a b : Nat) : (h.withLim a).withLim b = h.withLim b := rfl
theorem FreshOk.lim {i x ez n L : Nat} {cs : List PV} (f : FreshOk X i x ez n cs a) : FreshOk (X.withH (X.h.withLim L)) i x ez n cs a := by
  rcases f with f | ⟨hx, B, oA, ac, acs, cc, prev, f1, f2, f3, f4, f5, f6, f7, f8, f9, f10⟩
  · exact .inl f
  · exact .inr ⟨hx, B, oA, ac, acs, cc, prev, f1, f2, f3, f4, f5, f6, f7.trc (TrC.lim X L), f8, f9, f10⟩
theorem GRel.lim {i L : Nat} (g : GRel X i v a) : GRel (X.withH (X.h.withLim L)) i v a := by
  rcases g with ⟨x, ez, n, cs, e, f⟩ | ⟨h1, h2⟩
  · exact .inl ⟨x, ez, n, cs, e, f.lim⟩
  · exact .inr ⟨h1, h2.trc (TrC.lim X L)⟩
/-- A call with lent values. -/
theorem iso_rel {pc : PCall} {ac : ACall} (hc : CallRel pc ac) {f L : Nat} {as as' : List PV} {aas : List AV} (hp : PRel X σ) (hn : NoFr X) (hv : VRelL X as aas) (hL : L ≤ X.h.n)
    (e1 : mapO (lend σ) as = some as') (e2 : iso pc f as' = some v) :
    ∃ a h' X', ac f aas (X.h.withLim L) = some (a, h') ∧ X'.h = h'.withLim X.h.lim ∧ h'.lim = L ∧ Tr X X' ∧ PRel X' σ ∧ BRes X' v a := by
  have hlent := lends_rel e1 hp hv
  let XL : Cx := X.withH (X.h.withLim L)
  have hlent' : VRelL XL.lent as' aas := hlent.trc (TrC.lim X.lent L)
  have hpl : PRel XL.lent .empty := by
    refine ⟨rfl, fun b q h => ?_, fun b cs ez h => ?_, fun b es cl h => ?_, fun r v x ez h _ => ?_, fun B o h => ?_, fun B b h => ?_, fun B r h => ?_, fun B h => .inl h, hL⟩
    · cases h
    · have h' : PObj.dead = .cells cs ez := h; cases h'
    · have h' : PObj.dead = .map es cl := h; cases h'
    · have h' : Root.gone = .live v x ez := h; cases h'
    · cases h
    · cases h
    · cases h
  have hnl : NoFr XL.lent := fun B i h => by cases h
  unfold iso at e2
  split at e2
  case h_2 => cases e2
  rename_i w σ1 h1
  split at e2
  case h_2 => cases e2
  rename_i y σ2 h2
  injection e2 with e2; subst e2
  obtain ⟨a, X1, c1, c2, c3, c4, c5⟩ := hc h1 hpl hnl hlent'
  -- what is handed over
  have main : ∀ {X2 : Cx} {σ2 : PH}, Tr X1 X2 → PRel X2 σ2 → X2.h = X1.h → (∀ {Z : Cx}, (∀ {i : Nat} {v : PV} {a : AV}, GRel X2 i v a → (∃ x ez n cs, v = .ls (.fresh x ez) n cs ∧ FreshOk Z i x ez n cs a) ∨ ((∀ x ez n cs, v ≠ .ls (.fresh x ez) n cs) ∧ VRel Z v a)) →
      (∀ B i, Z.O B = some (.fr i) → Z.h.lim ≤ B) → BRes Z y a) → ∃ a h' X', ac f aas (X.h.withLim L) = some (a, h') ∧ X'.h = h'.withLim X.h.lim ∧ h'.lim = L ∧ Tr X X' ∧ PRel X' σ ∧ BRes X' y a := by
    intro X2 σ2 k p2 hh fin
    have kk : Tr XL.lent X2 := hpl.trans c2 k
    let X3 : Cx := X2.withH (X2.h.withLim X.h.lim)
    have k3 : Tr X.lent X3 := ⟨⟨kk.ob, kk.fr, kk.n, kk.G, kk.rl, kk.rts⟩, rfl⟩
    have pown : ∀ B i, X3.O B = some (.fr i) → B < X3.h.n := fun B i h => p2.own B _ h
    have plim : X3.h.lim ≤ X3.h.n := by
      have h1 := hp.lim
      have h2 : X.h.n ≤ X2.h.n := kk.n
      show X.h.lim ≤ X2.h.n; omega
    refine ⟨a, X1.h, X.back X3, c1, by rw [← hh]; rfl, c2.lim, Tr.back hp k3, PRel.back hp k3 pown plim, fin (fun g => ARel.back hp k3 pown plim g.lim) (fun B i h => back_lim hp hn k3 h)⟩
  unfold giv at h2
  split at h2
  · rename_i l
    split at h2
    · rename_i l' σ3 h3
      simp only [Option.some.injEq, Prod.mk.injEq] at h2; obtain ⟨rfl, rfl⟩ := h2
      cases c5 with
      | tup _ al hl =>
        obtain ⟨X2, d1, d2, d3, d4, d5⟩ := givL_rel (i := 0) h3 c3 hl
        refine main d1 d2 d3 fun {Z} g hlim => .inl ⟨l', al, rfl, rfl, ?_, ?_⟩
        · rw [mapC_len h3]; exact hl.length
        · have : ∀ {i : Nat} {l : List PV} {r : List AV}, GRelL X2 i l r → ∀ (j : Nat) (v : PV) (a : AV), l[j]? = some v → r[j]? = some a → GRel X2 (i + j) v a := by
            intro i l r h
            induction h with
            | nil => intro j v a h; simp at h
            | cons i v a l r h hl ih =>
              intro j v' a' h1 h2
              cases j with
              | zero => simp at h1 h2; subst h1; subst h2; exact h
              | succ j =>
                have := ih j v' a' (by simpa using h1) (by simpa using h2)
                have e : i + (j + 1) = i + 1 + j := by omega
                rw [e]; exact this
          intro j v a h1 h2
          have hg := this d5 j v a h1 h2
          rw [Nat.zero_add] at hg
          rcases g hg with ⟨x, ez, n, cs, e, f⟩ | h
          · exact .inl ⟨x, ez, n, cs, e, f, fun B hB => hlim B _ hB⟩
          · exact .inr h
    · cases h2
  · rename_i hne
    obtain ⟨X2, d1, d2, d3, d4, d5⟩ := giv1_rel (i := 0) h2 c3 c5
    refine main d1 d2 d3 fun {Z} g hlim => ?_
    refine BRes.ofA ?_
    rcases g d5 with ⟨x, ez, n, cs, e, f⟩ | h
    · exact .inl ⟨x, ez, n, cs, e, f, fun B hB => hlim B _ hB⟩
    · exact .inr h

theorem VRelL.append' (h1 : VRelL X l r) (h2 : VRelL X l' al) : VRelL X (l ++ l') (r ++ al) := h1.append h2
/-- An operation, with what is done with its fresh lists. -/
theorem stepOp_rel {pc : PCall} {ac : ACall} (hc : CallRel pc ac) {md : Mode} {o : AOp} (hp : PRel X σ) (hn : NoFr X) (hr : VRelL X rs ars) (hv : VRelL X vs avs) (e : pstepOp pc md o rs vs σ = some (v, σ')) :
    ∃ a X', stepOp ac o ars avs X.h = some (a, X'.h) ∧ Tr X X' ∧ PRel X' σ' ∧ NoFr X' ∧ VRel X' v a := by
  unfold pstepOp at e
  split at e
  case h_2 => cases e
  rename_i w σ1 h1
  have fin : ∀ {a : AV} {X1 : Cx}, stepOp ac o ars avs X.h = some (a, X1.h) → Tr X X1 → PRel X1 σ1 → BRes X1 w a → ∃ a X', stepOp ac o ars avs X.h = some (a, X'.h) ∧ Tr X X' ∧ PRel X' σ' ∧ NoFr X' ∧ VRel X' v a := by
    intro a X1 a1 a2 a3 a4
    obtain ⟨X2, b1, b2, b3, b4, b5⟩ := adj_rel e a3 a4
    exact ⟨a, X2, by rw [b1]; exact a1, hp.trans a2 b2, b3, b4, b5⟩
  split at h1
  · rename_i f as
    split at h1
    · rename_i fn fi ca hf
      have hf' := AO.rel hr hv f
      rw [hf] at hf'
      generalize hq : f.ev ars avs = q at hf'
      cases hf' with
      | f _ _ _ fi' ca' h2 h3 =>
        have hargs : VRelL X (fi ++ (pevs rs vs as ++ ca)) (fi' ++ (evs ars avs as ++ ca')) := h2.append ((evs_rel hr hv as).append h3)
        have hst : stepOp ac (.call f as) ars avs X.h = ac fn (fi' ++ (evs ars avs as ++ ca')) X.h := by simp only [stepOp, hq]
        unfold pcall at h1
        split at h1
        · obtain ⟨a, X1, c1, c2, c3, c4, c5⟩ := hc h1 hp hn hargs
          exact fin (by rw [hst]; exact c1) c2 c3 (.of c5)
        · split at h1
          · rename_i as' h4
            split at h1
            · rename_i y h5
              simp only [Option.some.injEq, Prod.mk.injEq] at h1; obtain ⟨rfl, rfl⟩ := h1
              obtain ⟨a, h', X1, c1, c2, c3, c4, c5, c6⟩ := iso_rel hc (L := X.h.lim) hp hn hargs hp.lim h4 h5
              rw [withLim_self] at c1
              have : X1.h = h' := by rw [c2, ← c3]; rfl
              exact fin (by rw [hst, this]; exact c1) c4 c5 c6
            · cases h1
          · cases h1
    · cases h1
  · rename_i hno
    obtain ⟨a, h', X1, c1, c2, c3, c4, c5⟩ := pop_rel hp hn hr hv h1
    refine fin (a := a) (X1 := X1) ?_ c2 c3 (.ofA c5)
    rw [c4, ← c1]
    cases o <;> first | rfl | exact absurd rfl (hno _ _)
/-- The operation just ahead made an object. -/
def Top (X : Cx) (σ : PH) : Prop := ∃ c, X.ob (σ.ob.length - 1) = some (X.h.n - 1, 0) ∧ 0 < X.h.n ∧ X.h.get (X.h.n - 1) = some (.cells c .rw [] 0)
theorem pop_box_top {md : Mode} {x : AO} (hp : PRel X σ) (hn : NoFr X) (hr : VRelL X rs ars) (hv : VRelL X vs avs) {pc : PCall} {ac : ACall} (e : pstepOp pc md (.box x) rs vs σ = some (v, σ')) :
    ∃ a X', stepOp ac (.box x) ars avs X.h = some (a, X'.h) ∧ Tr X X' ∧ PRel X' σ' ∧ NoFr X' ∧ VRel X' v a ∧ Top X' σ' := by
  unfold pstepOp at e
  split at e
  case h_2 => cases e
  rename_i w σ1 h1
  simp only [pop] at h1
  split at h1
  case h_2 => cases h1
  rename_i l h2
  split at h1
  case h_2 => cases h1
  simp only [Option.some.injEq, Prod.mk.injEq] at h1; obtain ⟨rfl, rfl⟩ := h1
  simp only [adj, adj1, Option.some.injEq, Prod.mk.injEq] at e; obtain ⟨rfl, rfl⟩ := e
  obtain ⟨al, a1, a2⟩ := cells_rel (AO.rel hr hv x) h2
  obtain ⟨X1, k, p, hh, hob⟩ := newObj (ez := 0) hp hn a2
  refine ⟨.p X.h.n 0, X1.plain, ?_, hp.trans k (Tr.plain _), p.plain, NoFr.plain, ?_, ⟨al, ?_, ?_, ?_⟩⟩
  · show aop (.box x) ars avs X.h = _
    simp only [aop, a1]
    show some (AV.p X.h.n 0, X.h.push _) = some (AV.p X.h.n 0, X1.h)
    rw [hh]
  · have : VRel X1 (.p σ.ob.length 0) (.p X.h.n (0 + 0)) := .p _ _ _ _ hob
    exact this.tr (Tr.plain _)
  · show X1.ob ((σ.push (.cells l 0)).ob.length - 1) = some (X1.h.n - 1, 0)
    rw [hh]; simp [PH.push]; exact hob
  · show 0 < X1.h.n; rw [hh]; simp
  · show X1.h.get (X1.h.n - 1) = _
    rw [hh]; simp [AHeap.get_push]

theorem store_lim {b o n ez L : Nat} {c : List AV} {w : AV} (hg : h.get b = some (.cells c .rw [] ez)) (hs : storeAt h n (.p b o) w = some h') (hL : L ≤ b) :
    h.lim ≤ b ∧ storeAt (h.withLim L) n (.p b o) w = some (h'.withLim L) := by
  have hg' : (h.withLim L).get b = some (.cells c .rw [] ez) := hg
  have hLb : Nat.blt b (h.withLim L).lim = false := blt_false.2 hL
  unfold storeAt at hs ⊢
  simp only at hs ⊢
  cases hb : Nat.beq (len_ w.cellsOf) n with
  | false => rw [hb] at hs; cases hs
  | true =>
    rw [hb] at hs
    simp only at hs ⊢
    unfold writeAt at hs ⊢
    rw [hg] at hs
    rw [hg']
    simp only at hs ⊢
    rw [hLb]
    cases h1 : Nat.blt b h.lim with
    | true => rw [h1] at hs; cases hs
    | false =>
      cases h2 : okCells w.cellsOf with
      | false => rw [h1, h2] at hs; cases hs
      | true =>
        cases h3 : splice c o w.cellsOf with
        | none => rw [h1, h2, h3] at hs; cases hs
        | some c' =>
          rw [h1, h2, h3] at hs
          simp only [killAll, Option.some.injEq] at hs ⊢
          subst hs
          exact ⟨blt_false.1 h1, rfl⟩
theorem stepBar_rel {pc : PCall} {ac : ACall} (hc : CallRel pc ac) {top : Bool} {o : PRO} (hp : PRel X σ) (hn : NoFr X) (hr : VRelL X rs ars) (hv : VRelL X vs avs) (ht : top = true → Top X σ) (e : pstepBar pc top o rs vs σ = some (v, σ')) :
    ∃ a X', stepBar ac o.era ars avs X.h = some (a, X'.h) ∧ Tr X X' ∧ PRel X' σ' ∧ NoFr X' ∧ VRel X' v a ∧ (isBoxP o = true → Top X' σ') := by
  unfold pstepBar at e
  split at e
  case h_2 => cases e
  rename_i hok
  cases hbar : o.bar with
  | full =>
    have hsb : stepBar ac o.era ars avs X.h = stepOp ac o.op ars avs X.h := by simp only [stepBar, PRO.era, hbar]
    by_cases hb : isBoxP o = true
    · obtain ⟨op, gd, vr, br, md⟩ := o
      cases op <;> first | (simp [isBoxP] at hb; done) | skip
      rename_i x
      obtain ⟨a, X', a1, a2, a3, a4, a5, a6⟩ := pop_box_top (ac := ac) hp hn hr hv e
      exact ⟨a, X', by rw [hsb]; exact a1, a2, a3, a4, a5, fun _ => a6⟩
    · obtain ⟨a, X', a1, a2, a3, a4, a5⟩ := stepOp_rel hc hp hn hr hv e
      exact ⟨a, X', by rw [hsb]; exact a1, a2, a3, a4, a5, fun h => absurd h hb⟩
  | new =>
    rw [hbar] at hok
    simp only at hok
    have hsb : ∀ {a : AV} {h' : AHeap}, stepOp ac o.op ars avs (X.h.withLim X.h.n) = some (a, h') → stepBar ac o.era ars avs X.h = some (a, h'.withLim X.h.lim) := by
      intro a h' h; simp only [stepBar, PRO.era, hbar, h]
    have notTop : isBoxP o = true → ∃ x, o.op = .box x := by
      intro hb
      obtain ⟨op, gd, vr, br, md⟩ := o
      cases op <;> first | (simp [isBoxP] at hb; done) | exact ⟨_, rfl⟩
    -- a still operation
    have still : (∀ f as, o.op ≠ .call f as) → actsA o.op = false → ∃ a X', stepBar ac o.era ars avs X.h = some (a, X'.h) ∧ Tr X X' ∧ PRel X' σ' ∧ NoFr X' ∧ VRel X' v a ∧ (isBoxP o = true → Top X' σ') := by
      intro hno hact
      have lim : ∀ {a : AV} {h' : AHeap}, stepOp ac o.op ars avs X.h = some (a, h') → h'.lim = X.h.lim ∧ ∃ h'', stepOp ac o.op ars avs (X.h.withLim X.h.n) = some (a, h'') ∧ h''.withLim X.h.lim = h' := by
        intro a h' h
        rw [stepOp_aop hno] at h ⊢
        cases hpu : pureA o.op with
        | true =>
          obtain ⟨b1, b2⟩ := aop_pure hpu h
          exact ⟨by rw [b1], _, b2 _, by rw [b1]; rfl⟩
        | false =>
          obtain ⟨hw', b1, b2⟩ := aop_weak (h := X.h) (hw := X.h.withLim X.h.n) ⟨rfl, fun b => .refl _⟩ hact hpu h
          rcases b2 with ⟨b3, b4⟩ | ⟨ob, b3, b4⟩
          · exact ⟨by rw [b3], _, b1, by rw [b4, b3]; rfl⟩
          · exact ⟨by rw [b3]; rfl, _, b1, by rw [b4, b3]; rfl⟩
      by_cases hb : isBoxP o = true
      · obtain ⟨x, hx⟩ := notTop hb
        rw [hx] at e
        obtain ⟨a, X', a1, a2, a3, a4, a5, a6⟩ := pop_box_top (ac := ac) hp hn hr hv e
        obtain ⟨_, h'', b1, b2⟩ := lim (by rw [hx]; exact a1)
        exact ⟨a, X', by rw [hsb b1, b2], a2, a3, a4, a5, fun _ => a6⟩
      · obtain ⟨a, X', a1, a2, a3, a4, a5⟩ := stepOp_rel hc hp hn hr hv e
        obtain ⟨_, h'', b1, b2⟩ := lim a1
        exact ⟨a, X', by rw [hsb b1, b2], a2, a3, a4, a5, fun h => absurd h hb⟩
    unfold pnewOk at hok
    split at hok
    · -- a call with lent values
      rename_i f as hop
      have hmd : o.md ≠ .sh := by intro h; rw [h] at hok; cases hok
      unfold pstepOp at e
      split at e
      case h_2 => cases e
      rename_i w σ1 h1
      rw [hop] at h1
      simp only at h1
      split at h1
      · rename_i fn fi ca hf
        have hf' := AO.rel hr hv f
        rw [hf] at hf'
        generalize hq : f.ev ars avs = q at hf'
        cases hf' with
        | f _ _ _ fi' ca' h2 h3 =>
          have hargs : VRelL X (fi ++ (pevs rs vs as ++ ca)) (fi' ++ (evs ars avs as ++ ca')) := h2.append ((evs_rel hr hv as).append h3)
          unfold pcall at h1
          split at h1
          · rename_i hm; exact absurd hm hmd
          · split at h1
            · rename_i as' h4
              split at h1
              · rename_i y h5
                simp only [Option.some.injEq, Prod.mk.injEq] at h1; obtain ⟨rfl, rfl⟩ := h1
                obtain ⟨a, h', X1, c1, c2, c3, c4, c5, c6⟩ := iso_rel hc (L := X.h.n) hp hn hargs (Nat.le_refl _) h4 h5
                obtain ⟨X2, b1, b2, b3, b4, b5⟩ := adj_rel e c5 c6
                refine ⟨a, X2, ?_, hp.trans c4 b2, b3, b4, b5, fun hb => ?_⟩
                · rw [b1, c2]; exact hsb (by rw [hop]; simp only [stepOp, hq]; exact c1)
                · obtain ⟨x, hx⟩ := notTop hb
                  rw [hop] at hx; cases hx
              · cases h1
            · cases h1
      · cases h1
    · rename_i hno
      have hact : actsA o.op = false := by simpa using hok
      exact still (fun f as h => hno f as h) hact
  | last =>
    rw [hbar] at hok
    simp only [Bool.and_eq_true] at hok
    obtain ⟨ht1, hok⟩ := hok
    obtain ⟨c, t1, t2, t3⟩ := ht ht1
    unfold plastOk at hok
    split at hok
    case h_2 => cases hok
    rename_i n x y hop
    split at hok
    case h_2 => cases hok
    rename_i b of hx
    have hb := beq_iff.1 hok
    rw [hop] at e
    obtain ⟨a, X', a1, a2, a3, a4, a5⟩ := stepOp_rel hc hp hn hr hv e
    refine ⟨a, X', ?_, a2, a3, a4, a5, fun hb => by (obtain ⟨op, gd, vr, br, md⟩ := o; simp only at hop; subst hop; simp [isBoxP] at hb)⟩
    -- the same under the other bound
    have hxr := AO.rel hr hv x
    rw [hx] at hxr
    generalize hq : x.ev ars avs = q at hxr
    cases hxr with
    | p _ _ B off hob =>
      have hbt : b = σ.ob.length - 1 := by omega
      subst hbt
      rw [t1] at hob; injection hob with hob; injection hob with e1 e2; subst e1; subst e2
      have a1' : skip1 (storeAt X.h n (.p (X.h.n - 1) (0 + of)) (y.ev ars avs)) = some (a, X'.h) := by
        have : stepOp ac (.store n x y) ars avs X.h = skip1 (storeAt X.h n (x.ev ars avs) (y.ev ars avs)) := rfl
        rw [this, hq] at a1; exact a1
      obtain ⟨h1, h2⟩ : ∃ h1, storeAt X.h n (.p (X.h.n - 1) (0 + of)) (y.ev ars avs) = some h1 ∧ (a = .tup [] ∧ h1 = X'.h) := by
        cases hh : storeAt X.h n (.p (X.h.n - 1) (0 + of)) (y.ev ars avs) with
        | none => rw [hh] at a1'; cases a1'
        | some h1 =>
          rw [hh] at a1'
          simp only [skip1, Option.some.injEq, Prod.mk.injEq] at a1'
          exact ⟨h1, rfl, a1'.1.symm, a1'.2⟩
      obtain ⟨h2, h3, h4⟩ := h2
      obtain ⟨s1, s2⟩ := store_lim t3 h2 (L := X.h.n - 1) (Nat.le_refl _)
      have hst : stepOp ac o.op ars avs (X.h.withLim (X.h.n - 1)) = some (.tup [], h1.withLim (X.h.n - 1)) := by
        rw [hop]
        show skip1 (storeAt (X.h.withLim (X.h.n - 1)) n (x.ev ars avs) (y.ev ars avs)) = _
        rw [hq, s2]; rfl
      simp only [stepBar, PRO.era, hbar]
      rw [ble_iff.2 s1]; simp only [hst, h3]
      have hl : h1.lim = X.h.lim := by rw [h4]; exact a2.lim
      rw [h4] at hl ⊢
      rw [withLim_withLim, ← hl, withLim_self]
theorem pwanted_rel {g : Option (Nat × Bool)} {b : Bool} (hr : VRelL X rs ars) (e : pwanted rs g = some b) : wanted ars g = some b := by
  unfold pwanted at e
  split at e
  · exact e
  · rename_i i w
    have h := hr.nth i
    split at e
    · rename_i x hx
      rw [hx] at h
      generalize hq : nth ars i = q at h
      cases h
      simp only [wanted, hq]; exact e
    · rename_i hx
      rw [hx] at h
      generalize hq : nth ars i = q at h
      cases h with
      | tup _ al hl => cases hl; simp only [wanted, hq]; exact e
    · cases e
theorem runOps_rel {pc : PCall} {ac : ACall} (hc : CallRel pc ac) : ∀ {os : List PRO} {top : Bool} {rs vs : List PV} {ars avs : List AV} {σ : PH} {X : Cx} {s : PSt}, prunOps pc top os rs vs σ = some s → PRel X σ → NoFr X → VRelL X rs ars → VRelL X vs avs → (top = true → Top X σ) →
    ∃ as X', runOps ac (eras os) ars avs X.h = some ⟨as, X'.h⟩ ∧ Tr X X' ∧ PRel X' s.h ∧ NoFr X' ∧ VRelL X' s.vs as
  | [], top, rs, vs, ars, avs, σ, X, s, e, hp, hn, hr, hv, ht => by
    simp only [prunOps, Option.some.injEq] at e; subst e
    exact ⟨avs, X, rfl, .refl X, hp, hn, hv⟩
  | o :: os, top, rs, vs, ars, avs, σ, X, s, e, hp, hn, hr, hv, ht => by
    simp only [prunOps] at e
    have setV : ∀ {X' : Cx} {v : PV} {a : AV} {vs : List PV} {avs : List AV}, VRelL X' vs avs → VRel X' v a → VRelL X' (psetVar vs o.var v) (setVar avs o.era.var a) := by
      intro X' v a vs avs h1 h2
      show VRelL X' (psetVar vs o.var v) (setVar avs o.var a)
      cases o.var with
      | none => exact h1
      | some i => exact h1.setn i h2
    split at e
    · rename_i hw
      split at e
      · rename_i v σ1 h1
        obtain ⟨a, X1, a1, a2, a3, a4, a5, a6⟩ := stepBar_rel hc hp hn hr hv ht h1
        obtain ⟨as, X2, b1, b2, b3, b4, b5⟩ := runOps_rel hc e a3 a4 (.cons _ _ _ _ a5 (hr.tr a2)) (setV (hv.tr a2) a5) a6
        refine ⟨as, X2, ?_, hp.trans a2 b2, b3, b4, b5⟩
        have hw' := pwanted_rel hr hw
        simp only [eras, runOps]
        show (match wanted ars o.guard with | some true => _ | some false => _ | none => _) = _
        rw [hw']; simp only [a1]; exact b1
      · cases e
    · rename_i hw
      obtain ⟨as, X2, b1, b2, b3, b4, b5⟩ := runOps_rel hc (ars := .tup [] :: ars) (avs := setVar avs o.era.var (.tup [])) e hp hn (.cons _ _ _ _ (.tup _ _ .nil) hr) (setV hv (.tup _ _ .nil)) (fun h => by cases h)
      refine ⟨as, X2, ?_, b2, b3, b4, b5⟩
      have hw' := pwanted_rel hr hw
      simp only [eras, runOps]
      show (match wanted ars o.guard with | some true => _ | some false => _ | none => _) = _
      rw [hw']; exact b1
    · cases e
end Go.Av
