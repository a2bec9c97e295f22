/- The second machine's operations: slices, maps. -/
import Derived.Test.YtgnpkjfaekimcaaDoorAvPO2
set_option linter.unusedVariables false
set_option linter.unusedSimpArgs false
set_option linter.unusedSectionVars false
namespace Go.Av
variable {X X' X1 Y : Cx} {σ σ' : PH} {v v' : PV} {a : AV} {l l' : List PV} {r al : List AV} {h h' : AHeap} {rs vs : List PV} {ars avs : List AV}

inductive VRelO (X : Cx) : Option PV → Option AV → Prop
  | none : VRelO X none none
  | some (v : PV) (a : AV) (h : VRel X v a) : VRelO X (some v) (some a)
theorem evOpt_rel (hr : VRelL X rs ars) (hv : VRelL X vs avs) (o : Option AO) : VRelO X (pevOpt rs vs o) (evOpt ars avs o) := by
  cases o with
  | none => exact .none
  | some x => exact .some _ _ (AO.rel hr hv x)
theorem pbound_rel {y c n : Nat} (hv : VRel X v a) (e : pbound v y = some n) (hc : y ≤ c) : bound a c = some n ∧ n ≤ y := by
  unfold pbound at e
  split at e
  · cases hv
    split at e
    · rename_i hb
      injection e with e; subst e
      have := ble_iff.1 hb
      refine ⟨?_, this⟩
      simp only [bound]
      rw [ble_iff.2 (by omega)]
    · cases e
  · cases e
theorem pbounds_rel {n c cc l h m : Nat} {lo hi mx : Option PV} {alo ahi amx : Option AV} (hlo : VRelO X lo alo) (hhi : VRelO X hi ahi) (hmx : VRelO X mx amx) (hnc : n ≤ c) (hc : c ≤ cc) (e : pbounds n c lo hi mx = some (l, h, m)) :
    bounds n cc alo ahi amx = some (l, h, if mx.isSome then m else cc) ∧ l ≤ h ∧ h ≤ m ∧ m ≤ c ∧ (mx = none → m = c) := by
  unfold pbounds at e
  cases hmx with
  | none =>
    simp only at e
    cases hhi with
    | none =>
      simp only at e
      cases hlo with
      | none =>
        simp only [Option.some.injEq, Prod.mk.injEq] at e; obtain ⟨rfl, rfl, rfl⟩ := e
        exact ⟨by simp [bounds], Nat.zero_le _, hnc, Nat.le_refl _, fun _ => rfl⟩
      | some vl al hl =>
        cases e3 : pbound vl n with
        | none => simp [e3] at e
        | some l' =>
          simp only [e3, Option.some.injEq, Prod.mk.injEq] at e; obtain ⟨rfl, rfl, rfl⟩ := e
          obtain ⟨g1, g2⟩ := pbound_rel hl e3 (Nat.le_refl _)
          exact ⟨by simp [bounds, g1], g2, hnc, Nat.le_refl _, fun _ => rfl⟩
    | some vh ah hh =>
      cases e2 : pbound vh c with
      | none => simp [e2] at e
      | some h' =>
        simp only [e2] at e
        obtain ⟨f1, f2⟩ := pbound_rel hh e2 hc
        cases hlo with
        | none =>
          simp only [Option.some.injEq, Prod.mk.injEq] at e; obtain ⟨rfl, rfl, rfl⟩ := e
          exact ⟨by simp [bounds, f1], Nat.zero_le _, f2, Nat.le_refl _, fun _ => rfl⟩
        | some vl al hl =>
          cases e3 : pbound vl h' with
          | none => simp [e3] at e
          | some l' =>
            simp only [e3, Option.some.injEq, Prod.mk.injEq] at e; obtain ⟨rfl, rfl, rfl⟩ := e
            obtain ⟨g1, g2⟩ := pbound_rel hl e3 (Nat.le_refl _)
            exact ⟨by simp [bounds, f1, g1], g2, f2, Nat.le_refl _, fun _ => rfl⟩
  | some vm am hm =>
    cases e1 : pbound vm c with
    | none => simp [e1] at e
    | some m' =>
      simp only [e1] at e
      obtain ⟨d1, d2⟩ := pbound_rel hm e1 hc
      cases hhi with
      | none => simp at e
      | some vh ah hh =>
        cases e2 : pbound vh m' with
        | none => simp [e2] at e
        | some h' =>
          simp only [e2] at e
          obtain ⟨f1, f2⟩ := pbound_rel hh e2 (Nat.le_refl _)
          cases hlo with
          | none =>
            simp only [Option.some.injEq, Prod.mk.injEq] at e; obtain ⟨rfl, rfl, rfl⟩ := e
            exact ⟨by simp [bounds, d1, f1], Nat.zero_le _, f2, d2, fun e => by cases e⟩
          | some vl al hl =>
            cases e3 : pbound vl h' with
            | none => simp [e3] at e
            | some l' =>
              simp only [e3, Option.some.injEq, Prod.mk.injEq] at e; obtain ⟨rfl, rfl, rfl⟩ := e
              obtain ⟨g1, g2⟩ := pbound_rel hl e3 (Nat.le_refl _)
              exact ⟨by simp [bounds, d1, f1, g1], g2, f2, d2, fun e => by cases e⟩
theorem reads_v (σ : PH) (b t : Bool) : σ.reads (.v b t) = true := rfl
/-- A list that may be read, that has something: where it lies. -/
theorem ls_rel {t : Tag} {n : Nat} {cs : List PV} (hp : PRel X σ) (hv : VRel X (.ls t n cs) a) (hrd : σ.reads t = true) :
    (n = 0 ∧ cs = [] ∧ zeroA false a) ∨ ∃ B oA ac acs, a = .sl B oA n ac ∧ CRel X t cs B oA ∧ VRelL X cs acs ∧ Cont X.h B oA acs ∧ ∀ k, ac = .k k → n ≤ k := by
  have one : ∀ {B oA : Nat}, CRel X t cs B oA → ∃ acs, VRelL X cs acs ∧ Cont X.h B oA acs := by
    intro B oA h
    cases h with
    | v _ _ _ acs _ _ hl hc => exact ⟨acs, hl, hc⟩
    | live _ _ _ _ _ acs _ _ _ hl hc => exact ⟨acs, hl, hc⟩
    | shut _ _ _ acs _ _ _ hl hc => exact ⟨acs, hl, hc⟩
  cases hv with
  | ls0 _ _ _ hz => exact .inl ⟨rfl, rfl, by cases a <;> first | trivial | exact ⟨hz.1, fun e => by cases e⟩ | cases hz⟩
  | lsv _ _ _ _ B oA ac h ht hn =>
    obtain ⟨acs, h1, h2⟩ := one h
    exact .inr ⟨B, oA, ac, acs, rfl, h, h1, h2, hn⟩
  | lo0 _ _ _ _ _ hz => exact .inl ⟨rfl, rfl, zeroA_up hz⟩
  | lo _ _ x ez _ _ oA ac cc prev hr hx hg hm h =>
    obtain ⟨acs, h1, h2⟩ := one h
    exact .inr ⟨_, oA, ac, acs, rfl, h, h1, h2, hm.cap⟩
  | lsh _ _ _ _ B oA ac hr h hn =>
    obtain ⟨acs, h1, h2⟩ := one h
    exact .inr ⟨B, oA, ac, acs, rfl, h, h1, h2, hn⟩
  | lx _ _ _ _ _ hs => exact (not_stale (reads_of hp hrd) hs).elim

section
variable (hp : PRel X σ) (hn : NoFr X) (hr : VRelL X rs ars) (hv : VRelL X vs avs) {md : Mode}
include hp
theorem plenOf_rel {x : PV} {ax : AV} {n : Nat} (hx : VRel X x ax) (e : plenOf σ x = some n) : lenOf ax = some n := by
  unfold plenOf at e
  split at e
  · cases hx; exact e
  · split at e
    · rename_i hrd
      injection e with e; subst e
      rcases ls_rel hp hx hrd with ⟨rfl, _, hz⟩ | ⟨B, oA, ac, acs, rfl, _⟩
      · cases ax <;> first | rfl | (obtain ⟨h, _⟩ := hz; subst h; rfl) | cases hz
      · rfl
    · cases e
  · cases hx; exact e
  · cases e
theorem pisSl_rel {x : PV} {ax : AV} (hx : VRel X x ax) (e : pisSl σ x = true) : ax = .nils ∨ ∃ b o n c, ax = .sl b o n c := by
  unfold pisSl at e
  split at e
  · cases hx; exact .inr ⟨_, _, _, _, rfl⟩
  · rcases ls_rel hp hx e with ⟨rfl, _, hz⟩ | ⟨B, oA, ac, acs, rfl, _⟩
    · cases ax <;> first | exact .inl rfl | exact .inr ⟨_, _, _, _, rfl⟩ | cases hz
    · exact .inr ⟨_, _, _, _, rfl⟩
  · cases e
theorem pbytes_rel : ∀ t : List UInt8, VRelL X (pbytes t) (byteCells t) := by
  intro t
  induction t with
  | nil => exact .nil
  | cons x t ih => exact .cons _ _ _ _ (.i _ _) ih
omit hp in
theorem byteCells_len (t : List UInt8) : (byteCells t).length = t.length := by
  induction t with
  | nil => rfl
  | cons x t ih => simp [byteCells, ih]
/-- What an append, or a copy, takes. -/
theorem pfirst_rel {ez n : Nat} {x : PV} {ax : AV} (hx : VRel X x ax) (e : pfirst σ ez n x = some l) (hlen : plenOf σ x = some n ∨ ∃ m, plenOf σ x = some m ∧ n ≤ m) : ∃ al, firstCells X.h ez n ax = some al ∧ VRelL X l al := by
  have zero : n = 0 → l = [] → (ax = .nils ∨ ∃ b o k c, ax = .sl b o k c) → ∃ al, firstCells X.h ez n ax = some al ∧ VRelL X l al := by
    rintro rfl rfl h
    refine ⟨[], ?_, .nil⟩
    rcases h with rfl | ⟨b, o, k, c, rfl⟩ <;> rfl
  have nz : ∀ {B o k : Nat} {c : ACap} {cc acs : List AV} {cs : List PV} {st prev ez' oA p}, n ≠ 0 → X.h.get B = some (.cells cc st prev ez') → sub cc oA acs.length = some acs → VRelL X cs acs → psub cs p (n * ez) = some l → o = oA + p →
      ∃ al, firstCells X.h ez n (.sl B o k c) = some al ∧ VRelL X l al := by
    intro B o k c cc acs cs st prev ez' oA p hnz hg hs hl hq ho
    subst ho
    obtain ⟨aq, b1, b2, _⟩ := psub_rel hq hl
    refine ⟨aq, ?_, b2⟩
    simp only [firstCells]
    cases n with
    | zero => exact absurd rfl hnz
    | succ n => simp only [hg]; exact sub_sub hs b1
  unfold pfirst at e
  split at e
  · rename_i t k cs
    split at e
    · rename_i hrd
      rcases ls_rel hp hx hrd with ⟨rfl, rfl, hz⟩ | ⟨B, oA, ac, acs, rfl, hcr, hl, hc, _⟩
      · have hn0 : n = 0 := by
          simp only [plenOf, hrd, Option.some.injEq] at hlen
          rcases hlen with h | ⟨m, h, h2⟩ <;> omega
        subst hn0
        refine zero rfl ?_ ?_
        · unfold psub at e; split at e
          · injection e with e; subst e; simp
          · cases e
        · cases ax <;> first | exact .inl rfl | exact .inr ⟨_, _, _, _, rfl⟩ | cases hz
      · obtain ⟨_, _, cc, st, prev, ez', g1, g2⟩ := hc
        by_cases hn0 : n = 0
        · subst hn0
          refine zero rfl ?_ (.inr ⟨_, _, _, _, rfl⟩)
          unfold psub at e; split at e
          · injection e with e; subst e; simp
          · cases e
        · exact nz hn0 g1 g2 hl e (by simp)
    · cases e
  · rename_i b o k c
    split at e
    · rename_i cs ez' hb
      obtain ⟨B, off, acs, cc, prev, h1, h2, h3, h4, h5, h6, h7, h8, h9⟩ := hp.obj b cs _ hb
      cases hx with
      | sl _ _ _ _ B' off' ac hob =>
        rw [h1] at hob; injection hob with hob; injection hob with e1 e2; subst e1; subst e2
        by_cases hn0 : n = 0
        · subst hn0
          refine zero rfl ?_ (.inr ⟨_, _, _, _, rfl⟩)
          unfold psub at e; split at e
          · injection e with e; subst e; simp
          · cases e
        · exact nz hn0 h5 h6.2 h7 e rfl
    · cases e
  · rename_i t
    split at e
    · cases hx
      obtain ⟨aq, b1, b2, b3⟩ := psub_rel e (pbytes_rel hp t)
      refine ⟨aq, ?_, b2⟩
      simp only [firstCells]
      have := (sub_eq.1 b1)
      simp at this
      exact takeN_eq.2 ⟨by rw [byteCells_len]; have := this.1; rw [byteCells_len] at this; exact this, this.2⟩
    · cases e
  · cases e
omit hp in
theorem pbytesOf_rel : ∀ {l : List PV} {al : List AV} {t : List UInt8}, VRelL X l al → pbytesOf l = some t → bytesOf al = some t
  | _, _, t, .nil, e => e
  | _, _, t, .cons v a l r hv hl, e => by
    cases v with
    | i k n =>
      cases k with
      | u8 =>
        cases hv
        simp only [pbytesOf] at e
        split at e
        · rename_i h1
          simp only [bytesOf, pbytesOf_rel hl h1]; exact e
        · cases e
      | _ => cases e
    | _ => cases e
include hr hv
include hn in
theorem o_s2b {x : AO} (e : pop md (.s2b x) rs vs σ = some (v, σ')) : Out X σ' v (aop (.s2b x) ars avs X.h) := by
  simp only [pop] at e
  have hx := AO.rel hr hv x
  generalize hq : x.ev ars avs = q at hx
  split at e
  · rename_i h1; rw [h1] at hx
    simp only [Option.some.injEq, Prod.mk.injEq] at e; obtain ⟨rfl, rfl⟩ := e
    cases hx
    obtain ⟨X', k, p, hh, ar⟩ := newView (ez := 1) (n := 0) (ti := false) (ac := .u 0) (l := []) (al := []) hp .nil rfl (fun e => by cases e) (fun k e => by cases e)
    exact .of (X' := X') (by simp only [aop, hq, hh]; rfl) k p ar
  · rename_i t hne h1; rw [h1] at hx
    simp only [Option.some.injEq, Prod.mk.injEq] at e; obtain ⟨rfl, rfl⟩ := e
    cases hx
    have hpos : 0 < t.length := by
      cases t with
      | nil => exact absurd rfl (hne)
      | cons => simp
    have hclo : cloL false (pbytes t) = true := by
      clear hne h1 hq hpos
      induction t with
      | nil => rfl
      | cons x t ih => simp [pbytes, cloL, isClo, ih]
    obtain ⟨X', k, p, hh, ar⟩ := newFresh (ez := 1) (n := t.length) (x := t.length) (ac := .u 0) hp hn (pbytes_rel hp t) hclo hpos ⟨Nat.le_refl _, .inl ⟨0, rfl, by simp, by rw [byteCells_len]; simp⟩⟩ (by rw [(pbytes_rel hp t).length])
    exact ⟨_, _, X', by simp only [aop, hq], k, p, hh, ar⟩
  · cases e
theorem o_b2s {x : AO} (e : pop md (.b2s x) rs vs σ = some (v, σ')) : Out X σ' v (aop (.b2s x) ars avs X.h) := by
  simp only [pop] at e
  have hx := AO.rel hr hv x
  generalize hq : x.ev ars avs = q at hx
  split at e
  · rename_i n h1 h2
    split at e
    · rename_i l h3
      split at e
      · rename_i t h4
        simp only [Option.some.injEq, Prod.mk.injEq] at e; obtain ⟨rfl, rfl⟩ := e
        obtain ⟨al, b1, b2⟩ := pfirst_rel hp hx h3 (.inl h2)
        have b3 := pbytesOf_rel b2 h4
        have hlen := plenOf_rel hp hx h2
        rcases pisSl_rel hp hx h1 with rfl | ⟨b, o, k, c, rfl⟩
        · simp only [lenOf, Option.some.injEq] at hlen; subst hlen
          simp only [firstCells, Option.some.injEq] at b1; subst b1
          simp only [bytesOf, Option.some.injEq] at b3; subst b3
          exact .same hp (by simp only [aop, hq]) (.s _)
        · simp only [lenOf, Option.some.injEq] at hlen; subst hlen
          exact .same hp (by simp only [aop, hq, b1, b3]) (.s _)
      · cases e
    · cases e
  · cases e
theorem o_slS {x : AO} {lo hi : Option AO} (e : pop md (.slS x lo hi) rs vs σ = some (v, σ')) : Out X σ' v (aop (.slS x lo hi) ars avs X.h) := by
  simp only [pop] at e
  have e1 := (pret_eq e).1
  have e2 := (pret_eq e).2
  clear e
  subst e2
  have hx := AO.rel hr hv x
  generalize hq : x.ev ars avs = q at hx
  unfold pSlS at e1
  split at e1
  · rename_i t h1; rw [h1] at hx; cases hx
    split at e1
    · rename_i l h m hb
      injection e1 with e1; subst e1
      obtain ⟨b1, _⟩ := pbounds_rel (cc := t.length) (evOpt_rel hr hv lo) (evOpt_rel hr hv hi) .none (Nat.le_refl _) (Nat.le_refl _) hb
      exact .same hp (by simp only [aop, hq, aSlS, b1, ret1]) (.s _)
    · cases e1
  · cases e1
theorem o_slA {n ez : Nat} {x : AO} {lo hi mx : Option AO} (e : pop md (.slA n ez x lo hi mx) rs vs σ = some (v, σ')) : Out X σ' v (aop (.slA n ez x lo hi mx) ars avs X.h) := by
  simp only [pop] at e
  have e1 := (pret_eq e).1
  have e2 := (pret_eq e).2
  clear e
  subst e2
  have hx := AO.rel hr hv x
  generalize hq : x.ev ars avs = q at hx
  unfold pSlA at e1
  split at e1
  · rename_i b o h1; rw [h1] at hx
    split at e1
    · rename_i l h m hb
      injection e1 with e1; subst e1
      obtain ⟨b1, b2, b3, b4, b5⟩ := pbounds_rel (cc := n) (evOpt_rel hr hv lo) (evOpt_rel hr hv hi) (evOpt_rel hr hv mx) (Nat.le_refl _) (Nat.le_refl _) hb
      have hm : (if (pevOpt rs vs mx).isSome then m else n) = m := by
        split
        · rfl
        · rename_i h2; exact (b5 (by simpa using h2)).symm
      rw [hm] at b1
      cases hx with
      | p _ _ B off hob =>
        refine .same (a := .sl B (off + o + l * ez) (h - l) (.k (m - l))) hp (by simp only [aop, hq, aSlA, b1, ret1]) ?_
        rw [Nat.add_assoc]
        exact .sl _ _ _ _ _ _ _ hob ⟨rfl, by omega⟩
    · cases e1
  · cases e1
theorem o_len {k : Nat} {x : AO} (e : pop md (.len k x) rs vs σ = some (v, σ')) : Out X σ' v (aop (.len k x) ars avs X.h) := by
  simp only [pop] at e
  have e1 := (pret_eq e).1
  have e2 := (pret_eq e).2
  clear e
  subst e2
  have hx := AO.rel hr hv x
  generalize hq : x.ev ars avs = q at hx
  unfold pLen at e1
  split at e1
  · rename_i h1; rw [h1] at hx; cases hx
    injection e1 with e1; subst e1
    exact .same hp (by simp only [aop, hq, aLen, ret1]) (.i _ _)
  · rename_i h1; rw [h1] at hx; cases hx
    injection e1 with e1; subst e1
    exact .same hp (by simp only [aop, hq, aLen, ret1]) (.i _ _)
  · rename_i t n cs h1; rw [h1] at hx
    split at e1
    · rename_i hrd
      injection e1 with e1; subst e1
      rcases ls_rel hp hx hrd with ⟨rfl, _, hz⟩ | ⟨B, oA, ac, acs, rfl, _⟩
      · have : aLen X.h 1 q = some (.i .i64 (.ofNat 0)) := by
          cases q <;> first | rfl | (obtain ⟨h, _⟩ := hz; subst h; rfl) | cases hz
        exact .same hp (by simp only [aop, hq, this, ret1]) (.i _ _)
      · exact .same hp (by simp only [aop, hq, aLen, ret1]) (.i _ _)
    · cases e1
  · rename_i h1; rw [h1] at hx; cases hx
    injection e1 with e1; subst e1
    exact .same hp (by simp only [aop, hq, aLen, ret1]) (.i _ _)
  · rename_i b h1; rw [h1] at hx
    split at e1
    · rename_i es cl hb
      injection e1 with e1; subst e1
      obtain ⟨B, aes, g1, g2, g3, g4, g5, g6⟩ := hp.map b es cl hb
      have hl : es.length = aes.length := by
        clear hb g4
        induction g5 with
        | nil => rfl
        | cons _ _ _ _ _ _ _ _ _ _ ih => simp [ih]
      cases hx with
      | m _ _ hob =>
        rw [g1] at hob; injection hob with hob; injection hob with e1 _; subst e1
        exact .same hp (by simp only [aop, hq, aLen, g4, ret1, hl]) (.i _ _)
    · cases e1
  · cases e1
theorem o_cap {x : AO} (e : pop md (.cap x) rs vs σ = some (v, σ')) : Out X σ' v (aop (.cap x) ars avs X.h) := by
  simp only [pop] at e
  have e1 := (pret_eq e).1
  have e2 := (pret_eq e).2
  clear e
  subst e2
  have hx := AO.rel hr hv x
  generalize hq : x.ev ars avs = q at hx
  unfold pCapOf at e1
  split at e1
  · rename_i h1; rw [h1] at hx
    injection e1 with e1; subst e1
    cases hx with
    | sl _ _ _ _ _ _ _ _ hc => obtain ⟨rfl, _⟩ := hc; exact .same hp (by simp only [aop, hq, aCapOf, ret1]) (.i _ _)
  · rename_i b n cs h1; rw [h1] at hx
    injection e1 with e1; subst e1
    cases hx with
    | ls0 _ _ _ hz =>
      have : aCapOf q = some (.i .i64 (.ofNat 0)) := by
        cases q <;> first | rfl | (obtain ⟨_, h⟩ := hz; rw [h rfl]; rfl) | cases hz
      exact .same hp (by simp only [aop, hq, this, ret1]) (.i _ _)
    | lsv _ _ _ _ _ _ _ _ ht _ => rw [ht rfl] at hq; exact .same hp (by simp only [aop, hq, aCapOf, ret1]) (.i _ _)
  · cases e1
end
end Go.Av
