/- The second machine's calls stand for the first one's. -/
import Derived.Test.YtgnpkjfaekimcaaDoorAvPD
set_option linter.unusedVariables false
set_option linter.unusedSimpArgs false
set_option linter.unusedSectionVars false
namespace Go.Av
variable {X X' X1 Y : Cx} {σ σ' : PH} {v v' : PV} {a : AV} {l l' : List PV} {r al : List AV} {h h' : AHeap} {rs vs : List PV} {ars avs : List AV}

theorem VRelL.set1 : ∀ {l : List PV} {r : List AV}, VRelL X l r → ∀ (j : Nat), VRel X v (Go.Av.nth r j) → VRelL X (psetn l j v) r
  | _, _, .nil, j, _ => .nil
  | _, _, .cons x y l r hx hl, 0, hv => .cons _ _ _ _ hv hl
  | _, _, .cons x y l r hx hl, j + 1, hv => .cons _ _ _ _ hx (hl.set1 j hv)
theorem thaw_rel {j : Nat} {s s' : PSt} (e : pthaw j s = some s') (hp : PRel X s.h) (hn : NoFr X) (hv : VRelL X s.vs avs) : ∃ X', X'.h = X.h ∧ Tr X X' ∧ PRel X' s'.h ∧ NoFr X' ∧ VRelL X' s'.vs avs := by
  unfold pthaw at e
  split at e
  case h_2 => cases e
  rename_i r v n cs hj
  have hx := hv.nth j
  rw [hj] at hx
  generalize hq : nth avs j = q at hx
  split at e
  · simp only [Option.some.injEq] at e; subst e
    exact ⟨X, rfl, .refl X, hp, hn, hv⟩
  · rename_i hn0
    split at e
    case h_2 => cases e
    rename_i v' x ez hr
    split at e
    case h_2 => cases e
    rename_i hvv hrl
    simp only [Option.some.injEq] at e; subst e
    have := beq_iff.1 hvv; subst this
    have hr' : getR X.rt r = .live v x (ez + 1) := by rw [hp.rt]; exact hr
    cases hx with
    | lo0 => cases hn0
    | lo _ _ x2 ez2 _ _ oA ac cc prev hr2 hx2 hg hm hcr =>
      rw [hr'] at hr2; injection hr2 with e1 e2 e3; subst e2; subst e3
      cases hcr with
      | live _ _ _ _ _ acs _ _ _ hl hc hk =>
        obtain ⟨c1, c2, cc', st, prev', ez'', c3, c4⟩ := hc
        rw [hg] at c3; injection c3 with c3; injection c3 with e1 e2 e3 e4; subst e1; subst e2; subst e3; subst e4
        have hpart : Part cc oA acs := ⟨by rcases hm.2 with ⟨_, _, _, h3⟩ | ⟨_, h3⟩ <;> omega, c4⟩
        obtain ⟨k1, k2⟩ := hp.thawed hr' hx2 (blt_false.1 hrl) hg hpart hl
        refine ⟨(X.thawed r s.h.ob.length oA).plain, rfl, hp.trans k1 (Tr.plain _), k2.plain, NoFr.plain, ?_⟩
        have hv2 : VRelL (X.thawed r s.h.ob.length oA) s.vs avs := hv.tr k1
        have key : VRel (X.thawed r s.h.ob.length oA) (.sl s.h.ob.length 0 n none) (nth avs j) := by
          rw [hq]
          exact .sl _ _ _ _ _ _ _ (by show (if _ then _ else _) = _; rw [if_pos rfl]) hm.cap
        exact (hv2.set1 j key).tr (Tr.plain _)
      | shut _ _ _ _ _ _ hr3 => rw [hr'] at hr3; cases hr3
    | lsh _ _ _ _ _ _ _ hr2 => rw [hr'] at hr2; cases hr2
    | lx _ _ _ _ _ hs => exact (not_stale (.inl ⟨x, ez + 1, hr'⟩) hs).elim

section
variable {pc : PCall} {ac : ACall} {lf : Nat}
def DenRel (pf : PSt → Option (Ex × PSt)) (af : St → Option (Ex × St)) : Prop :=
  ∀ ⦃s s' : PSt⦄ ⦃ex : Ex⦄ ⦃X : Cx⦄ ⦃avs : List AV⦄, pf s = some (ex, s') → PRel X s.h → NoFr X → VRelL X s.vs avs → ∃ avs' X', af ⟨avs, X.h⟩ = some (ex, ⟨avs', X'.h⟩) ∧ Tr X X' ∧ PRel X' s'.h ∧ NoFr X' ∧ VRelL X' s'.vs avs'
theorem iter_rel {pf : PSt → Option (Ex × PSt)} {af : St → Option (Ex × St)} (hf : DenRel pf af) : ∀ n, DenRel (piter pf n) (iter af n)
  | 0, _, _, _, _, _, e, _, _, _ => by cases e
  | n + 1, s, s', ex, X, avs, e, hp, hn, hv => by
    simp only [piter] at e
    split at e
    · rename_i s1 h1
      obtain ⟨as1, X1, a1, a2, a3, a4, a5⟩ := hf h1 hp hn hv
      obtain ⟨as2, X2, b1, b2, b3, b4, b5⟩ := iter_rel hf n e a3 a4 a5
      exact ⟨as2, X2, by simp only [iter, a1]; exact b1, hp.trans a2 b2, b3, b4, b5⟩
    · rename_i hne
      obtain ⟨as1, X1, a1, a2, a3, a4, a5⟩ := hf e hp hn hv
      refine ⟨as1, X1, ?_, a2, a3, a4, a5⟩
      simp only [iter, a1]
      split
      · rename_i h2
        injection h2 with h2; injection h2 with h2 h3; subst h2
        exact absurd e (hne s')
      · rfl
theorem den_rel (hc : CallRel pc ac) : ∀ c : PCode, DenRel (pden pc lf c) (den ac lf c.era)
  | .skip, s, s', ex, X, avs, e, hp, hn, hv => by
    simp only [pden, Option.some.injEq, Prod.mk.injEq] at e; obtain ⟨rfl, rfl⟩ := e
    exact ⟨avs, X, rfl, .refl X, hp, hn, hv⟩
  | .ret, s, s', ex, X, avs, e, hp, hn, hv => by
    simp only [pden, Option.some.injEq, Prod.mk.injEq] at e; obtain ⟨rfl, rfl⟩ := e
    exact ⟨avs, X, rfl, .refl X, hp, hn, hv⟩
  | .exit id, s, s', ex, X, avs, e, hp, hn, hv => by
    simp only [pden, Option.some.injEq, Prod.mk.injEq] at e; obtain ⟨rfl, rfl⟩ := e
    exact ⟨avs, X, rfl, .refl X, hp, hn, hv⟩
  | .reg ops, s, s', ex, X, avs, e, hp, hn, hv => by
    simp only [pden] at e
    split at e
    · rename_i s1 h1
      simp only [Option.some.injEq, Prod.mk.injEq] at e; obtain ⟨rfl, rfl⟩ := e
      obtain ⟨as1, X1, a1, a2, a3, a4, a5⟩ := runOps_rel hc h1 hp hn .nil hv (fun h => by cases h)
      exact ⟨as1, X1, by simp only [PCode.era, den, a1], a2, a3, a4, a5⟩
    · cases e
  | .seq a b, s, s', ex, X, avs, e, hp, hn, hv => by
    simp only [pden] at e
    split at e
    · rename_i s1 h1
      obtain ⟨as1, X1, a1, a2, a3, a4, a5⟩ := den_rel hc a h1 hp hn hv
      obtain ⟨as2, X2, b1, b2, b3, b4, b5⟩ := den_rel hc b e a3 a4 a5
      exact ⟨as2, X2, by simp only [PCode.era, den, a1]; exact b1, hp.trans a2 b2, b3, b4, b5⟩
    · rename_i hne
      obtain ⟨as1, X1, a1, a2, a3, a4, a5⟩ := den_rel hc a e hp hn hv
      refine ⟨as1, X1, ?_, a2, a3, a4, a5⟩
      simp only [PCode.era, den, a1]
      split
      · rename_i h2
        injection h2 with h2; injection h2 with h2 h3; subst h2
        exact absurd e (hne s')
      · rfl
  | .cond c a b, s, s', ex, X, avs, e, hp, hn, hv => by
    simp only [pden] at e
    have hx := AO.rel (X := X) (rs := []) (ars := []) .nil hv c
    generalize hq : c.ev [] avs = q at hx
    split at e
    · rename_i h1
      rw [h1] at hx; cases hx
      obtain ⟨as1, X1, a1, a2, a3, a4, a5⟩ := den_rel hc a e hp hn hv
      exact ⟨as1, X1, by simp only [PCode.era, den, hq]; exact a1, a2, a3, a4, a5⟩
    · rename_i h1
      rw [h1] at hx; cases hx
      obtain ⟨as1, X1, a1, a2, a3, a4, a5⟩ := den_rel hc b e hp hn hv
      exact ⟨as1, X1, by simp only [PCode.era, den, hq]; exact a1, a2, a3, a4, a5⟩
    · cases e
  | .blk id c, s, s', ex, X, avs, e, hp, hn, hv => by
    simp only [pden] at e
    split at e
    · rename_i j s1 h1
      obtain ⟨as1, X1, a1, a2, a3, a4, a5⟩ := den_rel hc c h1 hp hn hv
      split at e
      · rename_i hj
        simp only [Option.some.injEq, Prod.mk.injEq] at e; obtain ⟨rfl, rfl⟩ := e
        exact ⟨as1, X1, by simp only [PCode.era, den, a1, hj], a2, a3, a4, a5⟩
      · rename_i hj
        simp only [Option.some.injEq, Prod.mk.injEq] at e; obtain ⟨rfl, rfl⟩ := e
        exact ⟨as1, X1, by simp only [PCode.era, den, a1, hj], a2, a3, a4, a5⟩
    · rename_i hne
      obtain ⟨as1, X1, a1, a2, a3, a4, a5⟩ := den_rel hc c e hp hn hv
      refine ⟨as1, X1, ?_, a2, a3, a4, a5⟩
      simp only [PCode.era, den, a1]
      split
      · rename_i h2
        injection h2 with h2; injection h2 with h2 h3; subst h2
        exact absurd e (hne _ s')
      · rfl
  | .loop c, s, s', ex, X, avs, e, hp, hn, hv => by
    simp only [pden] at e
    exact iter_rel (den_rel hc c) lf e hp hn hv
  | .bad, s, s', ex, X, avs, e, hp, hn, hv => by cases e
  | .thaw j c, s, s', ex, X, avs, e, hp, hn, hv => by
    simp only [pden] at e
    split at e
    · rename_i s1 h1
      obtain ⟨X1, a1, a2, a3, a4, a5⟩ := thaw_rel h1 hp hn hv
      obtain ⟨as2, X2, b1, b2, b3, b4, b5⟩ := den_rel hc c e a3 a4 a5
      exact ⟨as2, X2, by rw [← a1]; exact b1, hp.trans a2 b2, b3, b4, b5⟩
    · cases e
theorem inits_rel (hv : VRelL X l al) : ∀ i : List (Option Nat), VRelL X (pinits l i) (inits al i)
  | [] => .nil
  | none :: i => .cons _ _ _ _ (.und _) (inits_rel hv i)
  | some j :: i => .cons _ _ _ _ (hv.nth j) (inits_rel hv i)
theorem resAll_rel {s : PSt} (hp : PRel X s.h) (hv : VRelL X s.vs avs) : ∀ {q : List ARes} {l : List PV}, presAll s q = some l → ∃ al, resAll ⟨avs, X.h⟩ q = some al ∧ VRelL X l al
  | [], l, e => by simp only [presAll, Option.some.injEq] at e; subst e; exact ⟨[], rfl, .nil⟩
  | q :: qs, l, e => by
    simp only [presAll] at e
    split at e
    · rename_i v vs' h1 h2
      simp only [Option.some.injEq] at e; subst e
      obtain ⟨al, b1, b2⟩ := resAll_rel hp hv h2
      have : ∃ a, resOf ⟨avs, X.h⟩ q = some a ∧ VRel X v a := by
        cases q with
        | v i =>
          simp only [presOf, Option.some.injEq] at h1; subst h1
          exact ⟨_, rfl, hv.nth i⟩
        | cell i n =>
          simp only [presOf] at h1
          exact load_rel (rs := []) (ars := []) (vs := []) (avs := []) hp .nil .nil (hv.nth i) h1
      obtain ⟨a, c1, c2⟩ := this
      exact ⟨a :: al, by simp only [resAll, c1, b1], .cons _ _ _ _ c2 b2⟩
    · cases e
theorem result_rel : ∀ {l : List PV} {al : List AV}, VRelL X l al → VRel X (presult l) (result al)
  | _, _, .nil => .tup _ _ .nil
  | _, _, .cons _ _ _ _ h .nil => h
  | _, _, .cons _ _ _ _ h (.cons _ _ _ _ h2 hl) => .tup _ _ (.cons _ _ _ _ h (.cons _ _ _ _ h2 hl))
theorem callWith_rel (hc : CallRel pc ac) {F : PFunc} {as : List PV} {aas : List AV} (e : pcallWith pc lf F as σ = some (v, σ')) (hp : PRel X σ) (hn : NoFr X) (hv : VRelL X as aas) :
    ∃ a X', callWith ac lf F.era aas X.h = some (a, X'.h) ∧ Tr X X' ∧ PRel X' σ' ∧ NoFr X' ∧ VRel X' v a := by
  unfold pcallWith at e
  split at e
  · cases e
  · rename_i ex s hne h1
    split at e
    · rename_i l h2
      simp only [Option.some.injEq, Prod.mk.injEq] at e; obtain ⟨rfl, rfl⟩ := e
      obtain ⟨avs, X1, a1, a2, a3, a4, a5⟩ := den_rel (lf := lf) hc F.body h1 hp hn (inits_rel hv F.ini)
      obtain ⟨al, b1, b2⟩ := resAll_rel a3 a5 h2
      refine ⟨result al, X1, ?_, a2, a3, a4, result_rel b2⟩
      have a1' : den ac lf F.era.body ⟨inits aas F.era.ini, X.h⟩ = some (ex, ⟨avs, X1.h⟩) := a1
      have b1' : resAll ⟨avs, X1.h⟩ F.era.res = some al := b1
      simp only [callWith, a1']
      cases ex with
      | exit i => exact absurd rfl (hne i)
      | norm => simp only [b1']
      | ret => simp only [b1']
    · cases e
  · cases e
theorem prun_rel {pf : Nat → Option PFunc} {fns : Nat → Option AFunc} (hf : ∀ f F, pf f = some F → fns f = some F.era) : ∀ d, CallRel (prun pf lf d) (acall fns lf d)
  | 0, _, _, _, _, _, _, _, e, _, _, _ => by cases e
  | d + 1, f, as, σ, v, σ', X, aas, e, hp, hn, hv => by
    simp only [prun] at e
    split at e
    · rename_i F h1
      obtain ⟨a, X', a1, a2⟩ := callWith_rel (prun_rel hf d) e hp hn hv
      exact ⟨a, X', by simp only [acall, hf f F h1]; exact a1, a2⟩
    · cases e
end
end Go.Av
