/- The second machine: values are closed, lent, given. -/
import Derived.Test.YtgnpkjfaekimcaaDoorAvPL
set_option linter.unusedVariables false
set_option linter.unusedSimpArgs false
set_option linter.unusedSectionVars false
namespace Go.Av
variable {X X' Y : Cx} {σ σ' : PH} {v v' : PV} {a : AV} {l l' : List PV} {r al : List AV} {h h' : AHeap} {k : Nat}

/-- Calls' results stay what they are. -/
def Kp (X X' : Cx) : Prop := ∀ B i, X.O B = some (.fr i) ↔ X'.O B = some (.fr i)
theorem Kp.refl (X : Cx) : Kp X X := fun _ _ => Iff.rfl
theorem Kp.trans (h1 : Kp X Y) (h2 : Kp Y X') : Kp X X' := fun B i => (h1 B i).trans (h2 B i)
open Classical in
theorem Kp.shut (r : Nat) (y : Root) : Kp X (X.shut r y) := fun B i => by
  rw [Cx.shut_O]
  split
  · rename_i e; rw [e]; simp
  · rfl
theorem Kp.kill (b : Nat) : Kp X (X.drop fun o => match o with | .ob c => decide (c = b) | _ => false) := fun B i => by
  constructor
  · intro h; exact (Cx.drop_some h rfl).1
  · intro h; exact Cx.drop_inv h

structure Clo (X : Cx) (σ' : PH) (X' : Cx) : Prop where
  tr : Tr X X'
  rel : PRel X' σ'
  h : X'.h = X.h
  kp : Kp X X'
theorem mapC_rel {f : PH → PV → Option (PV × PH)} (hf : ∀ {σ σ' : PH} {v v' : PV} {X : Cx} {a : AV}, f σ v = some (v', σ') → PRel X σ → VRel X v a → ∃ X', Clo X σ' X' ∧ VRel X' v' a ∧ isClo false v' = true) :
    ∀ {l l' : List PV} {σ σ' : PH} {X : Cx} {al : List AV}, mapC f σ l = some (l', σ') → PRel X σ → VRelL X l al → ∃ X', Clo X σ' X' ∧ VRelL X' l' al ∧ cloL false l' = true
  | [], _, σ, σ', X, _, e, hp, hl => by
    simp only [mapC, Option.some.injEq, Prod.mk.injEq] at e
    obtain ⟨rfl, rfl⟩ := e
    exact ⟨X, ⟨.refl X, hp, rfl, .refl X⟩, hl, rfl⟩
  | v :: l, _, σ, σ', X, _, e, hp, .cons _ a _ al hv hl => by
    simp only [mapC] at e
    split at e
    · rename_i y σ1 h1
      split at e
      · rename_i r σ2 h2
        simp only [Option.some.injEq, Prod.mk.injEq] at e
        obtain ⟨rfl, rfl⟩ := e
        obtain ⟨X1, c1, v1, k1⟩ := hf h1 hp hv
        obtain ⟨X2, c2, v2, k2⟩ := mapC_rel hf h2 c1.rel (hl.tr c1.tr)
        exact ⟨X2, ⟨hp.trans c1.tr c2.tr, c2.rel, c2.h.trans c1.h, c1.kp.trans c2.kp⟩, .cons _ _ _ _ (v1.tr c2.tr) v2, by simp [cloL, k1, k2]⟩
      · cases e
    · cases e

/-- An object's part, as a list of the first machine. -/
theorem ObjR.part {b o n ez : Nat} {cs q : List PV} (hob : ObjR X σ b cs ez) (hq : psub cs o n = some q) :
    ∃ B off aq cc prev, X.ob b = some (B, off) ∧ X.O B = some (.ob b) ∧ B < X.h.n ∧ X.G B ∧ X.h.get B = some (.cells cc .rw prev ez) ∧ sub cc (off + o) aq.length = some aq ∧ VRelL X q aq ∧ aq.length = n ∧ off + o + n ≤ cc.length := by
  obtain ⟨B, off, acs, cc, prev, h1, h2, h3, h4, h5, h6, h7, h8, h9⟩ := hob
  obtain ⟨aq, e1, e2, e3⟩ := psub_rel hq h7
  refine ⟨B, off, aq, cc, prev, h1, h2, h3, h4, h5, by rw [e3]; exact sub_sub h6.2 e1, e2, e3, ?_⟩
  have h10 := h7.length
  unfold psub at hq
  split at hq
  · have := (sub_eq.1 h6.2).1
    have := h6.1
    simp at *; omega
  · cases hq

theorem reads_of {r v : Nat} (hp : PRel X σ) (h : σ.reads (.own r v) = true) : (∃ x ez, getR X.rt r = .live v x ez) ∨ getR X.rt r = .shut v := by
  unfold PH.reads PH.root at h
  rw [hp.rt]
  simp only at h
  split at h
  · rename_i v' x ez e
    have := beq_iff.1 h; subst this
    exact .inl ⟨x, ez, e⟩
  · rename_i v' e
    have := beq_iff.1 h; subst this
    exact .inr e
  · cases h
theorem not_stale {r v : Nat} (h : (∃ x ez, getR X.rt r = .live v x ez) ∨ getR X.rt r = .shut v) (hs : Stale X.rt r v) : False := by
  obtain ⟨_, h2⟩ := hs
  rcases h with ⟨x, ez, e⟩ | e
  · rw [e] at h2; simp only at h2; omega
  · rw [e] at h2; exact h2 rfl

theorem shut_view {r v n : Nat} {cs : List PV} (hr : getR X.rt r = .shut v) (hv : VRel X (.ls (.own r v) n cs) a) : VRel X (.ls (.v false false) n cs) a := by
  cases hv with
  | lo0 _ _ _ _ _ hz => exact .ls0 _ _ _ (by cases a <;> first | trivial | (obtain ⟨h1, _⟩ := hz; exact ⟨h1, fun e => by cases e⟩) | cases hz)
  | lo _ _ x ez _ _ oA ac cc prev hr' => rw [hr] at hr'; cases hr'
  | lsh _ _ _ _ B oA ac hr' h hn =>
    cases h with
    | live _ _ _ _ _ _ _ hr2 => rw [hr] at hr2; cases hr2
    | shut _ _ _ acs _ _ _ hl hc ho hg hk => exact .lsv _ _ _ _ _ _ _ (.v _ _ _ acs _ _ hl hc ho (fun _ => hg) hk) (fun e => by cases e) hn
  | lx _ _ _ _ _ hs => exact (not_stale (.inr hr) hs).elim

/-- A view whose capacity is not told. -/
theorem VRel.loose {b ti : Bool} {n : Nat} {cs : List PV} (h : VRel X (.ls (.v b ti) n cs) a) : VRel X (.ls (.v b false) n cs) a := by
  cases h with
  | ls0 _ _ _ hz => exact .ls0 _ _ _ (by cases a <;> first | trivial | exact ⟨hz.1, fun e => by cases e⟩ | cases hz)
  | lsv _ _ _ _ B oA ac h ht hn =>
    cases h with
    | v _ _ _ acs _ _ hl hc ho hg hk => exact .lsv _ _ _ _ _ _ _ (.v _ _ _ acs _ _ hl hc ho hg hk) (fun e => by cases e) hn
theorem clo_rel : ∀ (k : Nat) {σ σ' : PH} {v v' : PV} {X : Cx} {a : AV}, clo k σ v = some (v', σ') → PRel X σ → VRel X v a → ∃ X', Clo X σ' X' ∧ VRel X' v' a ∧ isClo false v' = true
  | 0, _, _, _, _, _, _, e, _, _ => by simp [clo] at e
  | k + 1, σ, σ', v, v', X, a, e, hp, hv => by
    have same : ∀ {v' : PV} {σ' : PH}, some (v, σ) = some (v', σ') → isClo false v = true → ∃ X', Clo X σ' X' ∧ VRel X' v' a ∧ isClo false v' = true := by
      intro v' σ' e hc
      simp only [Option.some.injEq, Prod.mk.injEq] at e
      obtain ⟨rfl, rfl⟩ := e
      exact ⟨X, ⟨.refl X, hp, rfl, .refl X⟩, hv, hc⟩
    unfold clo at e
    split at e
    · exact same e rfl
    · exact same e rfl
    · exact same e rfl
    · exact same e rfl
    · exact same e rfl
    · exact same e rfl
    · exact same e rfl
    · exact same e rfl
    · simp only [Option.some.injEq, Prod.mk.injEq] at e
      obtain ⟨rfl, rfl⟩ := e
      exact ⟨X, ⟨.refl X, hp, rfl, .refl X⟩, hv.loose, rfl⟩
    · rename_i r v1 n cs
      split at e
      · rename_i v2 x ez hr
        split at e
        · rename_i hb
          simp only [Option.some.injEq, Prod.mk.injEq] at e
          obtain ⟨rfl, rfl⟩ := e
          have := beq_iff.1 hb; subst this
          have hr' : getR X.rt r = .live v1 x ez := by rw [hp.rt]; exact hr
          have k1 := Tr.shut hp hr' (.inl rfl)
          have k2 := PRel.shut hp hr' (.inl rfl)
          refine ⟨_, ⟨k1, k2, rfl, .shut _ _⟩, shut_view (r := r) (v := v1) ?_ (hv.tr k1), rfl⟩
          exact (getR_setR' _ _ _ _ (getR_lt hr' (by simp))).trans (if_pos rfl)
        · cases e
      · rename_i v2 hr
        split at e
        · rename_i hb
          simp only [Option.some.injEq, Prod.mk.injEq] at e
          obtain ⟨rfl, rfl⟩ := e
          have := beq_iff.1 hb; subst this
          exact ⟨X, ⟨.refl X, hp, rfl, .refl X⟩, shut_view (by rw [hp.rt]; exact hr) hv, rfl⟩
        · cases e
      · cases e
    · rename_i b o n c
      split at e
      · rename_i cs ez hb
        split at e
        · rename_i q hq
          split at e
          · rename_i l' σ1 hm
            simp only [Option.some.injEq, Prod.mk.injEq] at e
            obtain ⟨rfl, rfl⟩ := e
            obtain ⟨B, off, aq, cc, prev, h1, h2, h3, h4, h5, h6, h7, h8, h9⟩ := (hp.obj b cs _ hb).part hq
            have k1 := Tr.drop (X := X) fun o => match o with | .ob c => decide (c = b) | _ => false
            have p1 := hp.kill b
            obtain ⟨X1, c1, q1, q2⟩ := mapC_rel (fun e hp hv => clo_rel k e hp hv) hm p1 (h7.tr k1)
            refine ⟨X1, ⟨hp.trans k1 c1.tr, c1.rel, c1.h, (Kp.kill b).trans c1.kp⟩, ?_, rfl⟩
            cases hv with
            | sl _ _ _ _ B' off' ac hob hc =>
              rw [h1] at hob; injection hob with hob; injection hob with e1 e2; subst e1; subst e2
              have hO : X1.O B = none := (c1.tr.fr B (by simp [Cx.drop, h2]) h3).1
              refine .lsv _ _ _ _ _ _ _ (.v _ _ _ aq _ _ q1 ⟨?_, cloL_ok q1 q2, cc, .rw, prev, ez + 1, ?_, h6⟩ hO (fun _ => ?_) q2) (fun e => by cases e) ?_
              · rw [c1.h]; exact h3
              · rw [c1.h]; exact h5
              · rw [c1.tr.G]; exact h4
              · intro q hq'
                unfold CapR at hc
                split at hc
                · rename_i c'
                  rw [hq'] at hc; obtain ⟨hc, hn⟩ := hc; injection hc with hc; subst hc
                  exact hn
                · exact hc q hq'
          · cases e
        · cases e
      · cases e
    · cases e

/-! ## Lent -/
/-- What a call knows of the memory: nothing of it is its own. -/
def Cx.lent (X : Cx) : Cx := ⟨fun _ => none, X.rb, [], fun _ => none, fun B => X.h.n ≤ B ∨ (X.O B = none ∧ X.G B), X.h⟩
theorem Mv.lent : Mv true X X.lent := fun B ho hB _ => ⟨rfl, rfl, hB, fun hg => .inr ⟨ho, hg⟩⟩
theorem PRel.lent (hp : PRel X σ) : PRel X.lent .empty := by
  refine ⟨rfl, fun b q h => ?_, fun b cs ez h => ?_, fun b es cl h => ?_, fun r v x ez h _ => ?_, fun B o h => ?_, fun B b h => ?_, fun B r h => ?_, fun B h => .inl h, hp.lim⟩
  · cases h
  · have h' : PObj.dead = .cells cs ez := h; cases h'
  · have h' : PObj.dead = .map es cl := h; cases h'
  · have h' : Root.gone = .live v x ez := h; cases h'
  · cases h
  · cases h
  · cases h

theorem mapO_rel {f : PV → Option PV} (hf : ∀ {v v' : PV} {a : AV}, f v = some v' → VRel X v a → VRel X' v' a ∧ isClo true v' = true) :
    ∀ {l l' : List PV} {al : List AV}, mapO f l = some l' → VRelL X l al → VRelL X' l' al ∧ cloL true l' = true
  | [], _, _, e, .nil => by simp only [mapO, Option.some.injEq] at e; subst e; exact ⟨.nil, rfl⟩
  | v :: l, _, _, e, .cons _ a _ al hv hl => by
    simp only [mapO] at e
    split at e
    · rename_i y r h1 h2
      simp only [Option.some.injEq] at e; subst e
      obtain ⟨a1, a2⟩ := hf h1 hv
      obtain ⟨b1, b2⟩ := mapO_rel hf h2 hl
      exact ⟨.cons _ _ _ _ a1 b1, by simp [cloL, a2, b2]⟩
    · cases e
theorem cloL_up : cloL false l = true → cloL true l = true := by
  induction l with
  | nil => intro _; rfl
  | cons x l ih =>
    simp only [cloL, Bool.and_eq_true]
    rintro ⟨h1, h2⟩
    refine ⟨?_, ih h2⟩
    cases x with
    | ls t n cs => cases t <;> simp [isClo] at h1 ⊢
    | f fn fi ca => cases fi <;> cases ca <;> simp [isClo] at h1 ⊢
    | _ => exact h1
theorem VRelL.lent (h : VRelL X l al) (hc : cloL true l = true) : VRelL X.lent l al := VRelL.move Mv.lent h hc
theorem Room.cap {ac : ACap} {o x ez len n : Nat} (h : Room ac o x ez len n) : ∀ k, ac = .k k → n ≤ k := by
  intro k e
  rcases h.2 with ⟨e', h1, _⟩ | ⟨h1, _⟩
  · rw [h1] at e; cases e
  · rw [h1] at e; injection e with e; subst e; exact h.1
theorem zeroA_up {ti : Bool} (h : zeroA true a) : zeroA ti a := by
  cases a <;> first | trivial | exact ⟨h.1, fun _ => h.2 rfl⟩ | cases h
theorem CapR.cap {n : Nat} {c : Option Nat} {ac : ACap} (h : CapR n c ac) : ∀ k, ac = .k k → n ≤ k := by
  intro k e
  unfold CapR at h
  split at h
  · rw [e] at h; obtain ⟨h, hn⟩ := h; injection h with h; subst h; exact hn
  · exact h k e

theorem lendC_rel : ∀ (k : Nat) {σ : PH} {v v' : PV} {X : Cx} {a : AV}, lendC k σ v = some v' → PRel X σ → VRel X v a → VRel X.lent v' a ∧ isClo true v' = true
  | 0, _, _, _, _, _, e, _, _ => by simp [lendC] at e
  | k + 1, σ, v, v', X, a, e, hp, hv => by
    have same : ∀ {v' : PV}, some v = some v' → isClo true v = true → VRel X.lent v' a ∧ isClo true v' = true := by
      intro v' e hc
      injection e with e; subst e
      exact ⟨hv.move Mv.lent hc, hc⟩
    unfold lendC at e
    split at e
    · exact same e rfl
    · exact same e rfl
    · exact same e rfl
    · exact same e rfl
    · exact same e rfl
    · exact same e rfl
    · exact same e rfl
    · exact same e rfl
    · injection e with e; subst e
      rename_i b _ _ _
      exact ⟨hv.loose.move Mv.lent (by simp [isClo]), by simp [isClo]⟩
    · rename_i r v1 n cs
      split at e
      · rename_i hr
        injection e with e; subst e
        have hr := reads_of hp hr
        refine ⟨?_, rfl⟩
        cases hv with
        | lo0 _ _ _ _ _ hz => exact .ls0 _ _ _ (zeroA_up hz)
        | lo _ _ x ez _ _ oA ac cc prev _ _ hg hm h =>
          cases h with
          | live _ _ _ _ _ acs _ _ _ hl hc hk => exact .lsv _ _ _ _ _ _ _ (.v _ _ _ acs _ _ (hl.lent (cloL_up hk)) hc rfl (fun e => by cases e) (cloL_up hk)) (fun e => by cases e) hm.cap
          | shut _ _ _ acs _ _ hr2 hl hc ho hg' hk => exact .lsv _ _ _ _ _ _ _ (.v _ _ _ acs _ _ (hl.lent (cloL_up hk)) hc rfl (fun e => by cases e) (cloL_up hk)) (fun e => by cases e) hm.cap
        | lsh _ _ _ _ B oA ac hr' h hn =>
          cases h with
          | live _ _ _ _ _ acs _ _ _ hl hc hk => exact .lsv _ _ _ _ _ _ _ (.v _ _ _ acs _ _ (hl.lent (cloL_up hk)) hc rfl (fun e => by cases e) (cloL_up hk)) (fun e => by cases e) hn
          | shut _ _ _ acs _ _ hr2 hl hc ho hg' hk => exact .lsv _ _ _ _ _ _ _ (.v _ _ _ acs _ _ (hl.lent (cloL_up hk)) hc rfl (fun e => by cases e) (cloL_up hk)) (fun e => by cases e) hn
        | lx _ _ _ _ _ hs => exact (not_stale hr hs).elim
      · cases e
    · rename_i b o n c
      split at e
      · rename_i cs ez hb
        split at e
        · rename_i q hq
          split at e
          · rename_i l' hm
            injection e with e; subst e
            obtain ⟨B, off, aq, cc, prev, h1, h2, h3, h4, h5, h6, h7, h8, h9⟩ := (hp.obj b cs _ hb).part hq
            obtain ⟨q1, q2⟩ := mapO_rel (X' := X.lent) (fun e hv => lendC_rel k e hp hv) hm h7
            refine ⟨?_, rfl⟩
            cases hv with
            | sl _ _ _ _ B' off' ac hob hc =>
              rw [h1] at hob; injection hob with hob; injection hob with e1 e2; subst e1; subst e2
              exact .lsv _ _ _ _ _ _ _ (.v _ _ _ aq _ _ q1 ⟨h3, cloL_ok q1 q2, cc, .rw, prev, ez + 1, h5, h6⟩ rfl (fun e => by cases e) q2) (fun e => by cases e) hc.cap
          · cases e
        · cases e
      · cases e
    · cases e
theorem lend_rel {σ : PH} {v v' : PV} {X : Cx} {a : AV} (e : lend σ v = some v') (hp : PRel X σ) (hv : VRel X v a) : VRel X.lent v' a := by
  unfold lend at e
  split at e
  · rename_i b o
    split at e
    · rename_i cs ez hb
      split at e
      · rename_i l' hm
        injection e with e; subst e
        have hq : psub cs 0 cs.length = some cs := by simp [psub]
        obtain ⟨B, off, aq, cc, prev, h1, h2, h3, h4, h5, h6, h7, h8, h9⟩ := (hp.obj b cs _ hb).part hq
        obtain ⟨q1, q2⟩ := mapO_rel (X' := X.lent) (fun e hv => lendC_rel _ e hp hv) hm h7
        cases hv with
        | p _ _ B' off' hob =>
          rw [h1] at hob; injection hob with hob; injection hob with e1 e2; subst e1; subst e2
          exact .pls _ _ _ _ _ (.v _ _ _ aq _ _ q1 ⟨h3, cloL_ok q1 q2, cc, .rw, prev, ez, h5, h6⟩ rfl (fun e => by cases e) q2)
      · cases e
    · cases e
  · injection e with e; subst e
    cases hv with
    | pls _ _ _ B oA h => exact .pls _ _ _ B oA (CRel.move Mv.lent h (.inl rfl))
  · split at e
    · rename_i h1
      injection e with e; subst e
      cases hv with | ifc _ _ _ hv => exact .ifc _ _ _ (lendC_rel _ h1 hp hv).1
    · cases e
  · split at e
    · rename_i h1
      injection e with e; subst e
      cases hv with | agg _ _ hv => exact .agg _ _ (mapO_rel (X' := X.lent) (fun e hv => lendC_rel _ e hp hv) h1 hv).1
    · cases e
  · exact (lendC_rel _ e hp hv).1
theorem lends_rel : ∀ {l l' : List PV} {al : List AV}, mapO (lend σ) l = some l' → PRel X σ → VRelL X l al → VRelL X.lent l' al
  | [], _, _, e, _, .nil => by simp only [mapO, Option.some.injEq] at e; subst e; exact .nil
  | v :: l, _, _, e, hp, .cons _ a _ al hv hl => by
    simp only [mapO] at e
    split at e
    · rename_i y r h1 h2
      simp only [Option.some.injEq] at e; subst e
      exact .cons _ _ _ _ (lend_rel h1 hp hv) (lends_rel h2 hp hl)
    · cases e
end Go.Av
