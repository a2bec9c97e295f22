/- The second machine's operations: slices of slices, appends, maps. -/
import Derived.Test.YtgnpkjfaekimcaaDoorAvPO3
set_option linter.unusedVariables false
set_option linter.unusedSimpArgs false
set_option linter.unusedSectionVars false
namespace Go.Av
variable {X X' X1 Y : Cx} {σ σ' : PH} {v v' : PV} {a : AV} {l l' : List PV} {r al : List AV} {h h' : AHeap} {rs vs : List PV} {ars avs : List AV}

/-- A part of a view is a view. -/
theorem CRel.part {bo ti ti' : Bool} {cs q : List PV} {B oA o n : Nat} (hc : CRel X (.v bo ti) cs B oA) (hq : psub cs o n = some q) : CRel X (.v bo ti') q B (oA + o) := by
  cases hc with
  | v _ _ _ acs _ _ hl hc ho hg hk =>
    obtain ⟨aq, b1, b2, b3⟩ := psub_rel hq hl
    obtain ⟨c1, c2, cc, st, prev, ez, c3, c4⟩ := hc
    exact .v _ _ _ aq _ _ b2 ⟨c1, cloL_ok b2 (cloL_sub hq hk), cc, st, prev, ez, c3, by rw [b3]; exact sub_sub c4 b1⟩ ho hg (cloL_sub hq hk)
theorem CRel.shutPart {r v : Nat} {ti' : Bool} {cs q : List PV} {B oA o n : Nat} (hr : getR X.rt r = .shut v) (hc : CRel X (.own r v) cs B oA) (hq : psub cs o n = some q) : CRel X (.v false ti') q B (oA + o) := by
  cases hc with
  | live _ _ _ _ _ _ _ hr2 => rw [hr] at hr2; cases hr2
  | shut _ _ _ acs _ _ _ hl hc ho hg hk => exact CRel.part (ti := false) (.v false false _ acs _ _ hl hc ho (fun _ => hg) hk) hq

section
variable (hp : PRel X σ) (hn : NoFr X) (hr : VRelL X rs ars) (hv : VRelL X vs avs) {md : Mode}
include hp

/-- A list's part, as the first machine has it. -/
theorem aSlSl_zero {lo hi mx : Option PV} {alo ahi amx : Option AV} {l h m : Nat} {ti : Bool} (ez : Nat) (hlo : VRelO X lo alo) (hhi : VRelO X hi ahi) (hmx : VRelO X mx amx) (hz : zeroA ti a) (e : pbounds 0 0 lo hi mx = some (l, h, m)) :
    ∃ a', aSlSl ez a alo ahi amx = some a' ∧ zeroA (mx.isSome || ti) a' := by
  cases a with
  | nils =>
    obtain ⟨b1, _⟩ := pbounds_rel (cc := 0) hlo hhi hmx (Nat.le_refl _) (Nat.le_refl _) e
    exact ⟨.nils, by simp only [aSlSl, b1], trivial⟩
  | sl b o n c =>
    obtain ⟨rfl, hc⟩ := hz
    cases c with
    | k k =>
      obtain ⟨b1, b2, b3, b4, b5⟩ := pbounds_rel (cc := k) hlo hhi hmx (Nat.le_refl _) (Nat.zero_le _) e
      have hh : h = 0 := by omega
      have hl : l = 0 := by omega
      have hm : m = 0 := by omega
      subst hh; subst hl; subst hm
      refine ⟨.sl b (o + 0 * ez) (0 - 0) (.k ((if mx.isSome then 0 else k) - 0)), by simp only [aSlSl, b1], rfl, fun hti => ?_⟩
      cases hs : mx.isSome with
      | true => simp
      | false =>
        rw [hs] at hti
        have := hc (by simpa using hti)
        injection this with this; subst this; simp
    | u e' =>
      obtain ⟨b1, b2, b3, b4, b5⟩ := pbounds_rel (cc := 0) hlo hhi hmx (Nat.le_refl _) (Nat.le_refl _) e
      have hh : h = 0 := by omega
      have hl : l = 0 := by omega
      have hm : m = 0 := by omega
      subst hh; subst hl; subst hm
      cases hmx with
      | none =>
        refine ⟨.sl b (o + 0 * ez) (0 - 0) (.u (e' + 0)), by simp only [aSlSl, b1], rfl, fun hti => ?_⟩
        have := hc (by simpa using hti)
        cases this
      | some vm am hm => exact ⟨.sl b (o + 0 * ez) (0 - 0) (.k (0 - 0)), by simp [aSlSl, b1], rfl, fun _ => rfl⟩
  | _ => cases hz
omit hp in
theorem aSlSl_some {lo hi mx : Option PV} {alo ahi amx : Option AV} {l h m n B oA : Nat} {ac : ACap} (ez : Nat) (hlo : VRelO X lo alo) (hhi : VRelO X hi ahi) (hmx : VRelO X mx amx) (hk : ∀ k, ac = .k k → n ≤ k) (e : pbounds n n lo hi mx = some (l, h, m)) :
    ∃ ac', aSlSl ez (.sl B oA n ac) alo ahi amx = some (.sl B (oA + l * ez) (h - l) ac') ∧ l ≤ h ∧ h ≤ m ∧ m ≤ n ∧ (mx.isSome = true → ac' = .k (m - l)) ∧ (mx.isSome = false → m = n) ∧
      (mx.isSome = false → ∀ k, ac = .k k → ac' = .k (k - l)) ∧ (mx.isSome = false → ∀ e, ac = .u e → ac' = .u (e + l)) := by
  cases ac with
  | k k =>
    obtain ⟨b1, b2, b3, b4, b5⟩ := pbounds_rel (cc := k) hlo hhi hmx (Nat.le_refl _) (hk k rfl) e
    refine ⟨.k ((if mx.isSome then m else k) - l), by simp only [aSlSl, b1], b2, b3, b4, fun h => by simp [h], fun h => b5 (by simpa using h), fun h k' e => by injection e with e; subst e; simp [h], fun _ e he => by cases he⟩
  | u e' =>
    obtain ⟨b1, b2, b3, b4, b5⟩ := pbounds_rel (cc := n) hlo hhi hmx (Nat.le_refl _) (Nat.le_refl _) e
    cases hmx with
    | none =>
      refine ⟨.u (e' + l), by simp only [aSlSl, b1], b2, b3, b4, (fun h => by cases h), fun _ => b5 rfl, (fun _ k e => by cases e), fun _ e he => ?_⟩
      injection he with he; subst he; rfl
    | some vm am hm =>
      refine ⟨.k (m - l), by simp [aSlSl, b1], b2, b3, b4, fun _ => rfl, fun h => ?_, fun h => ?_, fun h => ?_⟩ <;> cases h

theorem slSl_rel {ez : Nat} {x : PV} {ax : AV} {lo hi mx : Option PV} {alo ahi amx : Option AV} (hx : VRel X x ax) (hlo : VRelO X lo alo) (hhi : VRelO X hi ahi) (hmx : VRelO X mx amx)
    (e : pSlSl md σ ez x lo hi mx = some (v, σ')) : ∃ a X', aSlSl ez ax alo ahi amx = some a ∧ X'.h = X.h ∧ Tr X X' ∧ PRel X' σ' ∧ VRel X' v a := by
  have same : ∀ {a : AV} {w : PV}, aSlSl ez ax alo ahi amx = some a → VRel X w a → some (w, σ) = some (v, σ') → ∃ a X', aSlSl ez ax alo ahi amx = some a ∧ X'.h = X.h ∧ Tr X X' ∧ PRel X' σ' ∧ VRel X' v a := by
    intro a w h1 h2 e
    simp only [Option.some.injEq, Prod.mk.injEq] at e; obtain ⟨rfl, rfl⟩ := e
    exact ⟨a, X, h1, rfl, .refl X, hp, h2⟩
  unfold pSlSl at e
  split at e
  · rename_i t n cs
    split at e
    case h_2 => cases e
    rename_i l h m hb0
    split at hb0
    case h_2 => cases hb0
    rename_i hrd
    have hrd' := ls_rel hp hx hrd
    split at e
    · -- nothing of it
      rename_i hz1 hz2 hz3
      have hhl := beq_iff.1 hz1
      have hml := beq_iff.1 hz2
      rcases hrd' with ⟨rfl, rfl, hz⟩ | ⟨B, oA, ac, acs, rfl, hcr, hl, hc, hk⟩
      · have hz' : ∃ ti, zeroA ti ax ∧ (mx.isSome || ti) = true := by
          cases hmx with
          | some => exact ⟨false, hz, rfl⟩
          | none =>
            refine ⟨true, ?_, rfl⟩
            cases hx with
            | ls0 b ti _ hz' => cases ti <;> simp at hz3; exact hz'
            | lsv b ti _ _ B oA ac _ ht _ => cases ti <;> simp at hz3; exact ⟨rfl, fun _ => ht rfl⟩
            | lo0 _ _ _ _ _ hz' => exact hz'
            | _ => simp at hz3
        obtain ⟨ti, h1, h2⟩ := hz'
        obtain ⟨a', b1, b2⟩ := aSlSl_zero hp ez hlo hhi hmx h1 hb0
        rw [h2] at b2
        exact same b1 (.ls0 _ _ _ b2) e
      · obtain ⟨ac', b1, b2, b3, b4, b5, b6, b7, b8⟩ := aSlSl_some (B := B) (oA := oA) ez hlo hhi hmx hk hb0
        refine same b1 ?_ e
        have h0 : h - l = 0 := by omega
        rw [h0]
        refine .ls0 _ _ _ ⟨rfl, fun _ => ?_⟩
        cases hs : mx.isSome with
        | true => rw [b5 hs]; congr 1; omega
        | false =>
          rw [hs] at hz3
          cases hx with
          | lsv b ti _ _ _ _ _ _ ht _ =>
            cases ti <;> simp at hz3
            have hac := ht rfl
            rw [b7 hs n hac]; congr 1; have := b6 hs; omega
          | lo => simp at hz3
          | lsh => simp at hz3
          | lx => simp at hz3
          | ls0 b ti _ hzz =>
            cases ti with
            | false => simp at hz3
            | true => rw [b7 hs 0 (hzz.2 rfl)]; congr 1; omega
          | lo0 => simp at hz3
    · rename_i hnz
      split at e
      · -- a view
        rename_i b tight
        split at e
        · rename_i q hq
          rcases hrd' with ⟨rfl, rfl, hz⟩ | ⟨B, oA, ac, acs, rfl, hcr, hl, hc, hk⟩
          · obtain ⟨a', b1, b2⟩ := aSlSl_zero hp ez hlo hhi hmx hz hb0
            obtain ⟨_, c2, c3, c4, _⟩ := pbounds_rel (cc := 0) hlo hhi hmx (Nat.le_refl _) (Nat.le_refl _) hb0
            have hh : h = 0 := by omega
            have hl : l = 0 := by omega
            have hm : m = 0 := by omega
            subst hh; subst hl; subst hm
            have hq' : q = [] := by
              unfold psub at hq; split at hq
              · injection hq with hq; subst hq; simp
              · cases hq
            subst hq'
            have htf : (tight || mx.isSome) = false := by
              cases tight <;> cases hs : mx.isSome <;> simp_all [Nat.beq]
            refine same b1 ?_ e
            have : (Nat.beq 0 0 && (tight || mx.isSome)) = false := by rw [htf]; rfl
            rw [this]
            refine .ls0 _ _ _ ?_
            cases a' <;> first | trivial | exact ⟨b2.1, fun e => by cases e⟩ | cases b2
          · obtain ⟨ac', b1, b2, b3, b4, b5, b6, b7, b8⟩ := aSlSl_some (B := B) (oA := oA) ez hlo hhi hmx hk hb0
            refine same b1 (.lsv _ _ _ _ _ _ _ (hcr.part hq) (fun ht => ?_) (fun k hk' => ?_)) e
            · simp only [Bool.and_eq_true, Bool.or_eq_true] at ht
              have hmh := beq_iff.1 ht.1
              cases hs : mx.isSome with
              | true => rw [b5 hs, hmh]
              | false =>
                have htt : tight = true := by rcases ht.2 with h | h <;> first | exact h | (rw [hs] at h; cases h)
                subst htt
                cases hx with
                | lsv _ _ _ _ _ _ _ _ ht' _ => rw [b7 hs n (ht' rfl)]; congr 1; have := b6 hs; omega
                | ls0 _ _ _ hzz => rw [b7 hs 0 (hzz.2 rfl)]; congr 1; omega
            · cases hs : mx.isSome with
              | true => rw [b5 hs] at hk'; injection hk' with hk'; omega
              | false =>
                cases ac with
                | k kk => rw [b7 hs kk rfl] at hk'; injection hk' with hk'; have := hk kk rfl; omega
                | u ee => rw [b8 hs ee rfl] at hk'; cases hk'
        · cases e
      · -- what may be appended to
        rename_i r v1
        split at e
        · rename_i q v2 x ez' hq hrt
          split at e
          case h_2 => cases e
          rename_i hvv
          have := beq_iff.1 hvv; subst this
          have hr' : getR X.rt r = .live v1 x ez' := by rw [hp.rt]; exact hrt
          split at e
          · -- a front part, to be appended to
            simp only [Option.some.injEq, Prod.mk.injEq] at e; obtain ⟨rfl, rfl⟩ := e
            cases hmx
            cases hx with
            | lo0 _ _ _ hh hlt hz =>
              obtain ⟨a', b1, b2⟩ := aSlSl_zero hp ez hlo hhi .none hz hb0
              obtain ⟨_, c2, c3, c4, _⟩ := pbounds_rel (cc := 0) hlo hhi .none (Nat.le_refl _) (Nat.le_refl _) hb0
              have hh0 : h = 0 := by omega
              subst hh0
              have hx0 : x = 0 := by
                rcases hh with ⟨ez2, e⟩ | e
                · rw [hr'] at e; injection e
                · rw [hr'] at e; cases e
              subst hx0
              have hq' : q = [] := by
                unfold psub at hq; split at hq
                · injection hq with hq; subst hq; simp
                · cases hq
              subst hq'
              -- the root's number turns
              have hlt' := getR_lt hr' (by simp)
              have hrt2 : ∀ p, getR (setR X.rt r (.live (v1 + 1) 0 ez')) p = if p = r then .live (v1 + 1) 0 ez' else getR X.rt p := fun p => getR_setR' _ _ _ _ hlt'
              have k : Tr X ⟨X.ob, X.rb, setR X.rt r (.live (v1 + 1) 0 ez'), X.O, X.G, X.h⟩ := by
                refine Tr.mk' (fun _ _ h => h) (fun B h _ => ⟨h, rfl⟩) (Nat.le_refl _) rfl rfl (by simp [setR_length]) (fun p hpp => ?_)
                unfold RTr
                have h2 := hrt2 p
                by_cases e : p = r
                · subst e; rw [hr']; simp only
                  refine .inr (.inr ?_)
                  rw [h2, if_pos rfl]; exact Nat.lt_succ_self _
                · rw [if_neg e] at h2
                  cases e' : getR X.rt p with
                  | gone => exact h2.trans e'
                  | shut v => exact h2.trans e'
                  | live v2 x2 ez2 => exact .inl ⟨h2.trans e', fun _ => ⟨rfl, rfl⟩⟩
              have hg' : ∀ p, getR (σ.setRoot r (.live (v1 + 1) 0 ez')).rt p = if p = r then .live (v1 + 1) 0 ez' else getR σ.rt p := fun p => getR_setR' _ _ _ _ (by rw [← hp.rt]; exact hlt')
              refine ⟨a', ⟨X.ob, X.rb, setR X.rt r (.live (v1 + 1) 0 ez'), X.O, X.G, X.h⟩, b1, rfl, k, ⟨by simp [PH.setRoot, hp.rt], hp.dom, fun b cs2 ez2 h => (hp.obj b cs2 ez2 h).keep k rfl (fun C hC => ⟨hC, rfl⟩), fun b es cl h => (hp.map b es cl h).keep k rfl (fun C hC => ⟨hC, rfl⟩),
                fun p v2 x2 ez2 h hx2 => ?_, hp.own, hp.ownb, fun C p h => by have := hp.ownr C p h; simpa [PH.setRoot, setR_length] using this, hp.newG, hp.lim⟩, .lo0 _ _ _ (.inl ⟨ez', (hrt2 r).trans (if_pos rfl)⟩) (by simpa [setR_length] using hlt') b2⟩
              rw [hg'] at h
              split at h
              · injection h with _ h _; omega
              · exact (hp.root p v2 x2 ez2 h hx2).keep k rfl rfl (fun C hC => ⟨hC, rfl⟩)
            | lo _ _ x2 ez2 _ _ oA ac cc prev hr2 hx2 hg hm hcr =>
              rw [hr'] at hr2; injection hr2 with e1 e2 e3; subst e2; subst e3
              obtain ⟨ac', b1, b2, b3, b4, b5, b6, b7, b8⟩ := aSlSl_some (B := X.rb r) (oA := oA) ez hlo hhi .none hm.cap hb0
              obtain ⟨cc2, prev2, g1, g2, g3, g4, g5, g6⟩ := hp.root r v1 x ez' hrt hx2
              obtain ⟨k1, k2⟩ := hp.grown (v' := v1 + 1) (x' := x) (ez' := ez') (B := X.rb r) (h' := X.h) hr' (Nat.lt_succ_self _) (.inl g2) g3 g6 g4 (Nat.le_refl _) rfl g1 g5 (fun C o _ _ _ => rfl)
              refine ⟨_, X.grown r (.live (v1 + 1) x ez') (X.rb r) X.h, b1, rfl, k1, k2, ?_⟩
              have hg2 : getR (X.grown r (.live (v1 + 1) x ez') (X.rb r) X.h).rt r = .live (v1 + 1) x ez' := (getR_setR' _ _ _ _ (getR_lt hr' (by simp))).trans (if_pos rfl)
              have hrb : (X.grown r (.live (v1 + 1) x ez') (X.rb r) X.h).rb r = X.rb r := by show (if _ then _ else _) = _; rw [if_pos rfl]
              rw [hg] at g1; injection g1 with g1; injection g1 with e1 _ e3 _; subst e1; subst e3
              cases hcr with
              | live _ _ _ _ _ acs _ _ _ hl hc hkk =>
                obtain ⟨aq, q1, q2, q3⟩ := psub_rel hq hl
                have key : VRel (X.grown r (.live (v1 + 1) x ez') (X.rb r) X.h) (.ls (.own r (v1 + 1)) h q) (.sl ((X.grown r (.live (v1 + 1) x ez') (X.rb r) X.h).rb r) (oA + 0 * ez) (h - 0) ac') := by
                  refine .lo _ _ x ez' _ _ _ _ cc prev hg2 hx2 (by rw [hrb]; exact hg) ⟨by have := hm.1; omega, ?_⟩ (.live _ _ x ez' _ aq _ hg2 hx2 (q2.tr k1) ?_ (cloL_sub hq hkk))
                  · rcases hm.2 with ⟨e, h1, h2, h3⟩ | ⟨h1, h2⟩
                    · refine .inl ⟨e, ?_, by omega, by omega⟩
                      have := b8 rfl e h1; simpa using this
                    · refine .inr ⟨?_, by omega⟩
                      have := b7 rfl x h1; simpa using this
                  · rw [hrb]
                    obtain ⟨c1, c2, cc', st, prev', ez'', c3, c4⟩ := hc
                    refine ⟨c1, cloL_ok q2 (cloL_sub hq hkk), cc', st, prev', ez'', c3, ?_⟩
                    rw [q3]; exact sub_sub c4 q1
                rw [hrb] at key; simpa using key
              | shut _ _ _ _ _ _ hr3 => rw [hr'] at hr3; cases hr3
            | lsh _ _ _ _ _ _ _ hr2 => rw [hr'] at hr2; cases hr2
            | lx _ _ _ _ _ hs => exact (not_stale (.inl ⟨x, ez', hr'⟩) hs).elim
          · -- nobody appends to it any more
            simp only [Option.some.injEq, Prod.mk.injEq] at e; obtain ⟨rfl, rfl⟩ := e
            have k1 := Tr.shut hp hr' (.inl rfl)
            have k2 := PRel.shut hp hr' (.inl rfl)
            have hsr : getR (X.shut r (.shut v1)).rt r = .shut v1 := (getR_setR' _ _ _ _ (getR_lt hr' (by simp))).trans (if_pos rfl)
            have hx2 := hx.tr k1
            rcases hrd' with ⟨rfl, rfl, hz⟩ | ⟨B, oA, ac, acs, rfl, hcr, hl, hc, hk⟩
            · obtain ⟨a', b1, b2⟩ := aSlSl_zero hp ez hlo hhi hmx hz hb0
              obtain ⟨_, c2, c3, c4, _⟩ := pbounds_rel (cc := 0) hlo hhi hmx (Nat.le_refl _) (Nat.le_refl _) hb0
              have hh : h = 0 := by omega
              have hl : l = 0 := by omega
              have hm : m = 0 := by omega
              subst hh; subst hl; subst hm
              have hq' : q = [] := by
                unfold psub at hq; split at hq
                · injection hq with hq; subst hq; simp
                · cases hq
              subst hq'
              refine ⟨a', X.shut r (.shut v1), b1, rfl, k1, k2, .ls0 _ _ _ ?_⟩
              cases hs : mx.isSome with
              | true => rw [hs] at b2; simpa using b2
              | false => rw [hs] at b2; simpa using b2
            · obtain ⟨ac', b1, b2, b3, b4, b5, b6, b7, b8⟩ := aSlSl_some (B := B) (oA := oA) ez hlo hhi hmx hk hb0
              refine ⟨_, X.shut r (.shut v1), b1, rfl, k1, k2, ?_⟩
              have hcr2 : CRel (X.shut r (.shut v1)) (.own r v1) cs B oA := by
                rcases CRel.trc k1.toTrC hcr with h | ⟨r', v', e, hs⟩
                · exact h
                · injection e with e1 e2; subst e1; subst e2
                  exact (not_stale (.inr hsr) hs).elim
              refine .lsv _ _ _ _ _ _ _ (hcr2.shutPart hsr hq) (fun ht => ?_) (fun k hk' => ?_)
              · simp only [Bool.and_eq_true] at ht
                rw [b5 ht.2, beq_iff.1 ht.1]
              · cases hs : mx.isSome with
                | true => rw [b5 hs] at hk'; injection hk' with hk'; omega
                | false =>
                  cases ac with
                  | k kk => rw [b7 hs kk rfl] at hk'; injection hk' with hk'; have := hk kk rfl; omega
                  | u ee => rw [b8 hs ee rfl] at hk'; cases hk'
        · rename_i q v2 hq hrt
          split at e
          case h_2 => cases e
          rename_i hvv
          have := beq_iff.1 hvv; subst this
          have hsr : getR X.rt r = .shut v1 := by rw [hp.rt]; exact hrt
          rcases hrd' with ⟨rfl, rfl, hz⟩ | ⟨B, oA, ac, acs, rfl, hcr, hl, hc, hk⟩
          · obtain ⟨a', b1, b2⟩ := aSlSl_zero hp ez hlo hhi hmx hz hb0
            obtain ⟨_, c2, c3, c4, _⟩ := pbounds_rel (cc := 0) hlo hhi hmx (Nat.le_refl _) (Nat.le_refl _) hb0
            have hh : h = 0 := by omega
            have hl : l = 0 := by omega
            have hm : m = 0 := by omega
            subst hh; subst hl; subst hm
            have hq' : q = [] := by
              unfold psub at hq; split at hq
              · injection hq with hq; subst hq; simp
              · cases hq
            subst hq'
            refine same b1 (.ls0 _ _ _ ?_) e
            cases hs : mx.isSome with
            | true => rw [hs] at b2; simpa using b2
            | false => rw [hs] at b2; simpa using b2
          · obtain ⟨ac', b1, b2, b3, b4, b5, b6, b7, b8⟩ := aSlSl_some (B := B) (oA := oA) ez hlo hhi hmx hk hb0
            refine same b1 (.lsv _ _ _ _ _ _ _ (hcr.shutPart hsr hq) (fun ht => ?_) (fun k hk' => ?_)) e
            · simp only [Bool.and_eq_true] at ht
              rw [b5 ht.2, beq_iff.1 ht.1]
            · cases hs : mx.isSome with
              | true => rw [b5 hs] at hk'; injection hk' with hk'; omega
              | false =>
                cases ac with
                | k kk => rw [b7 hs kk rfl] at hk'; injection hk' with hk'; have := hk kk rfl; omega
                | u ee => rw [b8 hs ee rfl] at hk'; cases hk'
        · cases e
      · cases e
  · rename_i b o n c
    split at e
    case h_2 => cases e
    rename_i l h m hb0
    cases hx with
    | sl _ _ _ _ B off ac hob hcap =>
      have fin : ∀ {ac' : ACap} {c' : Option Nat}, aSlSl ez (.sl B (off + o) n ac) alo ahi amx = some (.sl B (off + o + l * ez) (h - l) ac') → CapR (h - l) c' ac' → some (PV.sl b (o + l * ez) (h - l) c', σ) = some (v, σ') → ∃ a X', aSlSl ez (.sl B (off + o) n ac) alo ahi amx = some a ∧ X'.h = X.h ∧ Tr X X' ∧ PRel X' σ' ∧ VRel X' v a := by
        intro ac' c' h1 h2 h3
        refine same h1 (w := .sl b (o + l * ez) (h - l) c') ?_ h3
        rw [Nat.add_assoc]
        exact .sl _ _ _ _ _ _ _ hob h2
      cases c with
      | some k =>
        obtain ⟨rfl, hnk⟩ := hcap
        simp only [Option.getD_some] at hb0
        obtain ⟨b1, b2, b3, b4, b5⟩ := pbounds_rel (cc := k) hlo hhi hmx hnk (Nat.le_refl _) hb0
        have hm : (if mx.isSome then m else k) = m := by
          cases hs : mx.isSome with
          | true => simp
          | false => simp; exact (b5 (by simpa using hs)).symm
        rw [hm] at b1
        exact fin (ac' := .k (m - l)) (c' := some (m - l)) (by simp only [aSlSl, b1]) ⟨rfl, by omega⟩ (by cases mx <;> exact e)
      | none =>
        simp only [Option.getD_none] at hb0
        obtain ⟨ac', b1, b2, b3, b4, b5, b6, b7, b8⟩ := aSlSl_some (B := B) (oA := off + o) ez hlo hhi hmx hcap.cap hb0
        cases hmx with
        | none =>
          refine fin (c' := none) b1 (fun k hk => ?_) e
          cases ac with
          | k kk => rw [b7 rfl kk rfl] at hk; injection hk with hk; have := hcap kk rfl; omega
          | u ee => rw [b8 rfl ee rfl] at hk; cases hk
        | some vm am hm => exact fin (c' := some (m - l)) b1 ⟨b5 rfl, by omega⟩ e
  · cases e
include hr hv
theorem o_slSl {ez : Nat} {x : AO} {lo hi mx : Option AO} (e : pop md (.slSl ez x lo hi mx) rs vs σ = some (v, σ')) : Out X σ' v (aop (.slSl ez x lo hi mx) ars avs X.h) := by
  simp only [pop] at e
  obtain ⟨a, X', h1, h2, h3, h4, h5⟩ := slSl_rel hp (AO.rel hr hv x) (evOpt_rel hr hv lo) (evOpt_rel hr hv hi) (evOpt_rel hr hv mx) e
  exact .of (a := a) (X' := X') (by simp only [aop, h1, ret1, h2]) h3 h4 h5
end
end Go.Av
