/- The second machine's operations stand for the first one's. -/
import Derived.Test.YtgnpkjfaekimcaaDoorAvPG
set_option linter.unusedVariables false
set_option linter.unusedSimpArgs false
set_option linter.unusedSectionVars false
namespace Go.Av
variable {X X' X1 Y : Cx} {σ σ' : PH} {v v' : PV} {a : AV} {l l' : List PV} {r al : List AV} {h h' : AHeap} {rs vs : List PV} {ars avs : List AV}

/-- What an operation comes to. -/
def Out (X : Cx) (σ' : PH) (v : PV) (res : Option (AV × AHeap)) : Prop :=
  ∃ a h' X', res = some (a, h') ∧ Tr X X' ∧ PRel X' σ' ∧ X'.h = h' ∧ ARel X' 0 v a
theorem VRel.notFresh (hv : VRel X v a) : ∀ x ez n cs, v ≠ .ls (.fresh x ez) n cs := by
  rintro x ez n cs rfl; cases hv
theorem ARel.of (i : Nat) (hv : VRel X v a) : ARel X i v a := .inr ⟨hv.notFresh, hv⟩
theorem Out.same {res : Option (AV × AHeap)} (hp : PRel X σ) (ha : res = some (a, X.h)) (hv : VRel X v a) : Out X σ v res := ⟨a, X.h, X, ha, .refl X, hp, rfl, .of 0 hv⟩
theorem Out.of {res : Option (AV × AHeap)} (ha : res = some (a, X'.h)) (k : Tr X X') (hp : PRel X' σ') (hv : VRel X' v a) : Out X σ' v res := ⟨a, X'.h, X', ha, k, hp, rfl, .of 0 hv⟩
theorem pret_eq {o : Option PV} (e : pret σ o = some (v, σ')) : o = some v ∧ σ' = σ := by
  unfold pret at e; split at e
  · simp only [Option.some.injEq, Prod.mk.injEq] at e; obtain ⟨rfl, rfl⟩ := e; exact ⟨rfl, rfl⟩
  · cases e
theorem pskip_eq {o : Option PH} (e : pskip o = some (v, σ')) : o = some σ' ∧ v = .tup [] := by
  unfold pskip at e; split at e
  · simp only [Option.some.injEq, Prod.mk.injEq] at e; obtain ⟨rfl, rfl⟩ := e; exact ⟨rfl, rfl⟩
  · cases e
theorem len_len (l : List AV) : len_ l = l.length := rfl

theorem cells_rel (hv : VRel X v a) (e : v.cells? = some l) : ∃ al, a.cells? = some al ∧ VRelL X l al := by
  have one : ∀ {v : PV} {a : AV}, VRel X v a → a.okCell = true → ∃ al, a.cells? = some al ∧ VRelL X [v] al := by
    intro v a hv hk
    refine ⟨[a], ?_, .cons _ _ _ _ hv .nil⟩
    cases a <;> first | rfl | cases hk
  cases hv with
  | und => cases e
  | agg l2 a2 h => simp only [PV.cells?, Option.some.injEq] at e; subst e; exact ⟨a2, rfl, h⟩
  | tup l2 a2 h => simp only [PV.cells?, Option.some.injEq] at e; subst e; exact ⟨_, rfl, .cons _ _ _ _ (.tup _ _ h) .nil⟩
  | plsx r v cs o a h ha => simp only [PV.cells?, Option.some.injEq] at e; subst e; exact one (.plsx r v cs o a h ha) ha
  | lx r v n cs a h ha => simp only [PV.cells?, Option.some.injEq] at e; subst e; exact one (.lx r v n cs a h ha) ha
  | ls0 bo ti a h => simp only [PV.cells?, Option.some.injEq] at e; subst e; exact one (.ls0 bo ti a h) (zeroA_ok h)
  | lo0 r v a h hr hz => simp only [PV.cells?, Option.some.injEq] at e; subst e; exact one (.lo0 r v a h hr hz) (zeroA_ok hz)
  | b x => simp only [PV.cells?, Option.some.injEq] at e; subst e; exact one (.b x) rfl
  | i k n => simp only [PV.cells?, Option.some.injEq] at e; subst e; exact one (.i k n) rfl
  | s x => simp only [PV.cells?, Option.some.injEq] at e; subst e; exact one (.s x) rfl
  | nilp => simp only [PV.cells?, Option.some.injEq] at e; subst e; exact one .nilp rfl
  | p b o B off h => simp only [PV.cells?, Option.some.injEq] at e; subst e; exact one (.p b o B off h) rfl
  | pls t cs o B oA h => simp only [PV.cells?, Option.some.injEq] at e; subst e; exact one (.pls t cs o B oA h) rfl
  | sl b o n c B off ac h hc => simp only [PV.cells?, Option.some.injEq] at e; subst e; exact one (.sl b o n c B off ac h hc) rfl
  | lsv bo ti n cs B oA ac h ht hn => simp only [PV.cells?, Option.some.injEq] at e; subst e; exact one (.lsv bo ti n cs B oA ac h ht hn) rfl
  | lo r v x ez n cs oA ac cc prev hr hx hg hm h => simp only [PV.cells?, Option.some.injEq] at e; subst e; exact one (.lo r v x ez n cs oA ac cc prev hr hx hg hm h) rfl
  | lsh r v n cs B oA ac hr h hn => simp only [PV.cells?, Option.some.injEq] at e; subst e; exact one (.lsh r v n cs B oA ac hr h hn) rfl
  | nilm => simp only [PV.cells?, Option.some.injEq] at e; subst e; exact one .nilm rfl
  | m b B h => simp only [PV.cells?, Option.some.injEq] at e; subst e; exact one (.m b B h) rfl
  | nilf => simp only [PV.cells?, Option.some.injEq] at e; subst e; exact one .nilf rfl
  | f fn fi ca fi' ca' h1 h2 => simp only [PV.cells?, Option.some.injEq] at e; subst e; exact one (.f fn fi ca fi' ca' h1 h2) rfl
  | nili => simp only [PV.cells?, Option.some.injEq] at e; subst e; exact one .nili rfl
  | ifc t v a h => simp only [PV.cells?, Option.some.injEq] at e; subst e; exact one (.ifc t v a h) rfl
/-- The cells that a store takes. -/
theorem cellsOf_rel (hv : VRel X v a) (hk : pokCells v.cellsOf = true) : VRelL X v.cellsOf a.cellsOf := by
  cases v with
  | agg l => cases hv with | agg _ _ h => exact h
  | _ =>
    have hk' : okCells [a] = true := pokCells_ok (.cons _ _ _ _ hv .nil) hk
    have : a.cellsOf = [a] := by
      cases a <;> first | rfl | (simp [okCells, AV.okCell] at hk')
    rw [this]; exact .cons _ _ _ _ hv .nil

theorem splice_of {c ac : List AV} {vs : List AV} {o : Nat} (h : o + vs.length ≤ ac.length) : splice ac o vs = some (ac.take o ++ vs ++ ac.drop (o + vs.length)) := splice_ok h
theorem pfill_rel (hr : VRelL X rs ars) (hv : VRelL X vs avs) : ∀ {ps : List (Nat × Nat × AO)} {c l : List PV} {ac : List AV}, pfill rs vs c ps = some l → VRelL X c ac →
    ∃ al, fill ars avs ac ps = some al ∧ VRelL X l al ∧ l.length = c.length
  | [], c, l, ac, e, hc => by
    simp only [pfill, Option.some.injEq] at e; subst e
    exact ⟨ac, rfl, hc, rfl⟩
  | (off, size, x) :: ps, c, l, ac, e, hc => by
    simp only [pfill] at e
    split at e
    · cases e
    · rename_i l1 h1
      split at e
      · rename_i c' hb h2
        obtain ⟨al1, a1, a2⟩ := cells_rel (AO.rel hr hv x) h1
        obtain ⟨b1, b2⟩ := psplice_rel h2 hc a2
        obtain ⟨al, c1, c2, c3⟩ := pfill_rel hr hv e b2
        refine ⟨al, ?_, c2, ?_⟩
        · simp only [fill, a1, splice_ok b1]
          have : Nat.beq (len_ al1) size = true := by rw [len_len, ← a2.length]; exact hb
          rw [this]; exact c1
        · rw [c3, b2.length]; have := hc.length; simp; omega
      · cases e
theorem prep_rel {z : List AV} (n : Nat) : VRelL X (prep n (ofAVs z)) (rep n z) := by
  unfold prep
  induction n with
  | zero => exact .nil
  | succ n ih =>
    rw [List.replicate_succ, List.flatten_cons]
    exact (ofAVs_rel z).append ih

/-- A new block becomes an object. -/
theorem newObj {ez : Nat} (hp : PRel X σ) (hn : NoFr X) (hl : VRelL X l al) :
    ∃ X', Tr X X' ∧ PRel X' (σ.push (.cells l ez)) ∧ X'.h = X.h.push (.cells al .rw [] ez) ∧ X'.ob σ.ob.length = some (X.h.n, 0) := by
  have k1 := Tr.more hp (some (.fr 0)) (.cells al .rw [] ez)
  have p1 := hp.more (some (.fr 0)) (.cells al .rw [] ez) (.inr ⟨0, rfl⟩)
  have hO : (X.more (some (.fr 0)) (.cells al .rw [] ez)).O X.h.n = some (.fr 0) := by show (if _ then _ else _) = _; rw [if_pos rfl]
  have hg : (X.more (some (.fr 0)) (.cells al .rw [] ez)).h.get X.h.n = some (.cells al .rw [] ez) := by
    show (X.h.push _).get _ = _; rw [AHeap.get_push, if_pos rfl]
  have p2 := p1.named (ez := ez) (off := 0) hO hg hp.lim (hp.newG _ (Nat.le_refl _)) (fun q hq => by simp at hq) ⟨Nat.zero_le _, sub_eq.2 ⟨by simp, by simp⟩⟩ (hl.tr k1)
  refine ⟨_, hp.trans k1 (.named p1 0 X.h.n 0), p2, rfl, ?_⟩
  show (if _ then _ else _) = _; rw [if_pos rfl]
/-- A new block belongs to a fresh list. -/
theorem newFresh {ez n x : Nat} {ac : ACap} (hp : PRel X σ) (hn : NoFr X) (hl : VRelL X l al) (hc : cloL false l = true) (hx : 0 < x) (hm : Room ac 0 x ez al.length n) (hlen : al.length = l.length) :
    ∃ X', Tr X X' ∧ PRel X' σ ∧ X'.h = X.h.push (.cells al .rw [] ez) ∧ ARel X' 0 (.ls (.fresh x ez) n l) (.sl X.h.n 0 n ac) := by
  have k1 := Tr.more hp (some (.fr 0)) (.cells al .rw [] ez)
  have hg : (X.more (some (.fr 0)) (.cells al .rw [] ez)).h.get X.h.n = some (.cells al .rw [] ez) := by
    show (X.h.push _).get _ = _; rw [AHeap.get_push, if_pos rfl]
  refine ⟨_, k1, hp.more _ _ (.inr ⟨0, rfl⟩), rfl, .inl ⟨x, ez, n, l, rfl, .inr ⟨hx, X.h.n, 0, ac, al, al, [], rfl, ?_, hp.newG _ (Nat.le_refl _), hg, fun q hq => by simp at hq, hm, hl.tr k1, ?_, ⟨Nat.zero_le _, sub_eq.2 ⟨by simp, by simp⟩⟩, hc⟩, fun B hB => ?_⟩⟩
  · show (if _ then _ else _) = _; rw [if_pos rfl]
  · exact ⟨by simp [Cx.more], cloL_ok hl hc, al, .rw, [], ez, hg, sub_eq.2 ⟨by simp, by simp⟩⟩
  · have h' : (if B = X.h.n then some (Owner.fr 0) else X.O B) = some (.fr 0) := hB
    split at h'
    · rename_i e; subst e; exact hp.lim
    · exact absurd h' (hn B 0)
/-- A new block is a view's. -/
theorem newView {ez n : Nat} {ti : Bool} {ac : ACap} (hp : PRel X σ) (hl : VRelL X l al) (hc : cloL false l = true) (ht : ti = true → ac = .k n) (hk : ∀ k, ac = .k k → n ≤ k) :
    ∃ X', Tr X X' ∧ PRel X' σ ∧ X'.h = X.h.push (.cells al .rw [] ez) ∧ VRel X' (.ls (.v false ti) n l) (.sl X.h.n 0 n ac) := by
  have k1 := Tr.more hp none (.cells al .rw [] ez)
  have hg : (X.more none (.cells al .rw [] ez)).h.get X.h.n = some (.cells al .rw [] ez) := by
    show (X.h.push _).get _ = _; rw [AHeap.get_push, if_pos rfl]
  refine ⟨_, k1, hp.more _ _ (.inl rfl), rfl, .lsv _ _ _ _ _ _ _ (.v _ _ _ al _ _ (hl.tr k1) ⟨by simp [Cx.more], cloL_ok hl hc, al, .rw, [], ez, hg, sub_eq.2 ⟨by simp, by simp⟩⟩ ?_ (fun _ => hp.newG _ (Nat.le_refl _)) hc) ht hk⟩
  show (if _ then _ else _) = _; rw [if_pos rfl]
theorem mapC_len {α : Type} {f : α → PV → Option (PV × α)} : ∀ {l l' : List PV} {s s' : α}, mapC f s l = some (l', s') → l'.length = l.length
  | [], _, _, _, e => by simp only [mapC, Option.some.injEq, Prod.mk.injEq] at e; obtain ⟨rfl, _⟩ := e; rfl
  | x :: l, _, _, _, e => by
    simp only [mapC] at e
    split at e
    · split at e
      · rename_i h2
        simp only [Option.some.injEq, Prod.mk.injEq] at e
        obtain ⟨rfl, _⟩ := e
        simp [mapC_len h2]
      · cases e
    · cases e
theorem NoFr.kp {X X' : Cx} (h : NoFr X) (k : Kp X X') : NoFr X' := fun B i hB => h B i ((k B i).2 hB)

section
variable (hp : PRel X σ) (hn : NoFr X) (hr : VRelL X rs ars) (hv : VRelL X vs avs) {md : Mode}
include hp hr hv

theorem o_mv {x : AO} (e : pop md (.mv x) rs vs σ = some (v, σ')) : Out X σ' v (aop (.mv x) ars avs X.h) := by
  simp only [pop, Option.some.injEq, Prod.mk.injEq] at e; obtain ⟨rfl, rfl⟩ := e
  exact .same hp rfl (AO.rel hr hv x)
theorem o_pick {c x y : AO} (e : pop md (.pick c x y) rs vs σ = some (v, σ')) : Out X σ' v (aop (.pick c x y) ars avs X.h) := by
  simp only [pop] at e
  have hc := AO.rel hr hv c
  generalize hq : c.ev ars avs = q at hc
  split at e
  · rename_i h1; rw [h1] at hc; cases hc
    simp only [Option.some.injEq, Prod.mk.injEq] at e; obtain ⟨rfl, rfl⟩ := e
    exact .same hp (by simp only [aop, hq]) (AO.rel hr hv x)
  · rename_i h1; rw [h1] at hc; cases hc
    simp only [Option.some.injEq, Prod.mk.injEq] at e; obtain ⟨rfl, rfl⟩ := e
    exact .same hp (by simp only [aop, hq]) (AO.rel hr hv y)
  · cases e
include hn in
theorem o_box {x : AO} (e : pop md (.box x) rs vs σ = some (v, σ')) : Out X σ' v (aop (.box x) ars avs X.h) := by
  simp only [pop] at e
  split at e
  · rename_i l h1
    split at e
    · simp only [Option.some.injEq, Prod.mk.injEq] at e; obtain ⟨rfl, rfl⟩ := e
      obtain ⟨al, a1, a2⟩ := cells_rel (AO.rel hr hv x) h1
      obtain ⟨X', k, p, hh, hob⟩ := newObj (ez := 0) hp hn a2
      refine .of (a := .p X.h.n 0) (X' := X') (by simp [aop, a1, hh]) k p ?_
      exact .p _ _ _ _ hob
    · cases e
  · cases e
theorem o_build {z : List AV} {ps : List (Nat × Nat × AO)} (e : pop md (.build z ps) rs vs σ = some (v, σ')) : Out X σ' v (aop (.build z ps) ars avs X.h) := by
  simp only [pop] at e
  split at e
  · rename_i l h1
    simp only [Option.some.injEq, Prod.mk.injEq] at e; obtain ⟨rfl, rfl⟩ := e
    obtain ⟨al, a1, a2, _⟩ := pfill_rel hr hv h1 (ofAVs_rel z)
    exact .same hp (by simp [aop, a1]) (.agg _ _ a2)
  · cases e
include hn in
theorem o_buildSl {n ez : Nat} {z : List AV} {ps : List (Nat × Nat × AO)} (e : pop md (.buildSl n ez z ps) rs vs σ = some (v, σ')) : Out X σ' v (aop (.buildSl n ez z ps) ars avs X.h) := by
  simp only [pop] at e
  split at e
  case h_2 => cases e
  rename_i l h1
  obtain ⟨al, a1, a2, a3⟩ := pfill_rel hr hv h1 (prep_rel n)
  have hres : aop (.buildSl n ez z ps) ars avs X.h = some (.sl X.h.n 0 n (.k n), X.h.push (.cells al .rw [] ez)) := by simp [aop, a1]
  have hl0 : n = 0 → l = [] := by
    intro e0; subst e0
    have : l.length = 0 := by rw [a3]; rfl
    exact List.length_eq_zero_iff.1 this
  split at e
  · split at e
    · simp only [Option.some.injEq, Prod.mk.injEq] at e; obtain ⟨rfl, rfl⟩ := e
      obtain ⟨X', k, p, hh, hob⟩ := newObj (ez := ez) hp hn a2
      refine .of (a := .sl X.h.n 0 n (.k n)) (X' := X') (by rw [hres, hh]) k p ?_
      exact .sl _ _ _ _ _ _ _ hob ⟨rfl, Nat.le_refl _⟩
    · cases e
  · split at e
    · rename_i l' σ1 h2
      split at e
      · rename_i hb
        simp only [Option.some.injEq, Prod.mk.injEq] at e; obtain ⟨rfl, rfl⟩ := e
        obtain ⟨X1, c1, q1, q2⟩ := mapC_rel (fun e hp hv => clo_rel 8 e hp hv) h2 hp a2
        have hl := mapC_len h2
        have hal := q1.length
        by_cases hn0 : n = 0
        · subst hn0
          have := hl0 rfl; subst this
          have : l' = [] := List.length_eq_zero_iff.1 (by simpa using hl)
          subst this
          have k1 := Tr.more c1.rel none (.cells al .rw [] ez)
          refine ⟨_, _, X1.more none (.cells al .rw [] ez), hres, hp.trans c1.tr k1, c1.rel.more _ _ (.inl rfl), ?_, ?_⟩
          · show X1.h.push _ = _; rw [c1.h]
          · refine .inl ⟨0, ez, 0, [], rfl, .inl ⟨rfl, rfl, rfl, rfl, fun _ => rfl⟩, fun B hB => ?_⟩
            have h' : (if B = X1.h.n then none else X1.O B) = some (.fr 0) := hB
            split at h'
            · cases h'
            · exact absurd h' (hn.kp c1.kp B 0)
        · obtain ⟨X2, k2, p2, hh, ar⟩ := newFresh (ez := ez) (n := n) (x := n) (ac := .k n) c1.rel (hn.kp c1.kp) q1 q2 (by omega) ⟨Nat.le_refl _, .inr ⟨rfl, by have := beq_iff.1 hb; omega⟩⟩ (by omega)
          rw [c1.h] at hh ar
          exact ⟨_, _, X2, hres, hp.trans c1.tr k2, p2, hh, ar⟩
      · cases e
    · cases e
  · split at e
    · rename_i l' σ1 h2
      simp only [Option.some.injEq, Prod.mk.injEq] at e; obtain ⟨rfl, rfl⟩ := e
      obtain ⟨X1, c1, q1, q2⟩ := mapC_rel (fun e hp hv => clo_rel 8 e hp hv) h2 hp a2
      obtain ⟨X2, k2, p2, hh, ar⟩ := newView (ez := ez) (n := n) (ti := true) (ac := .k n) c1.rel q1 q2 (fun _ => rfl) (fun k e => by injection e with e; omega)
      rw [c1.h] at hh ar
      exact .of (by rw [hres, hh]) (hp.trans c1.tr k2) p2 ar
    · cases e

theorem load_rel {n : Option Nat} {pa : PV} {aa : AV} (hpa : VRel X pa aa) (e : ploadAt σ n pa = some v) : ∃ a, loadAt X.h n aa = some a ∧ VRel X v a := by
  have fin : ∀ {c : List PV} {o : Nat} {B oA : Nat} {acs cc : List AV} {st prev ez}, VRelL X c acs → sub cc oA acs.length = some acs → X.h.get B = some (.cells cc st prev ez) →
      pread n c o = some v → ∃ a, loadAt X.h n (.p B (oA + o)) = some a ∧ VRel X v a := by
    intro c o B oA acs cc st prev ez hl hs hg e
    simp only [loadAt, hg]
    unfold pread at e
    split at e
    · obtain ⟨a, h1, h2⟩ := pget_rel e hl
      exact ⟨a, sub_get hs h1, h2⟩
    · rename_i k
      split at e
      · rename_i l h1
        simp only [Option.some.injEq] at e; subst e
        obtain ⟨aq, b1, b2, b3⟩ := psub_rel h1 hl
        refine ⟨.agg aq, ?_, .agg _ _ b2⟩
        simp only
        rw [sub_sub hs b1]
      · cases e
  unfold ploadAt at e
  split at e
  · cases e
  · rename_i c o h1
    unfold pcellsAt at h1
    split at h1
    · rename_i b o'
      split at h1
      · rename_i c' ez hb
        simp only [Option.some.injEq, Prod.mk.injEq] at h1; obtain ⟨rfl, rfl⟩ := h1
        obtain ⟨B, off, acs, cc, prev, h1, h2, h3, h4, h5, h6, h7, h8, h9⟩ := hp.obj b c' _ hb
        cases hpa with
        | p _ _ B' off' hob =>
          rw [h1] at hob; injection hob with hob; injection hob with e1 e2; subst e1; subst e2
          exact fin h7 h6.2 h5 e
      · cases h1
    · rename_i t c' o'
      split at h1
      · rename_i hrd
        simp only [Option.some.injEq, Prod.mk.injEq] at h1; obtain ⟨rfl, rfl⟩ := h1
        cases hpa with
        | pls _ _ _ B oA hcr =>
          cases hcr with
          | v _ _ _ acs _ _ hl hc => obtain ⟨_, _, cc, st, prev, ez, g1, g2⟩ := hc; exact fin hl g2 g1 e
          | live _ _ _ _ _ acs _ _ _ hl hc => obtain ⟨_, _, cc, st, prev, ez, g1, g2⟩ := hc; exact fin hl g2 g1 e
          | shut _ _ _ acs _ _ _ hl hc => obtain ⟨_, _, cc, st, prev, ez, g1, g2⟩ := hc; exact fin hl g2 g1 e
        | plsx r v1 _ _ _ hs => exact (not_stale (reads_of hp hrd) hs).elim
      · cases h1
    · cases h1
theorem o_load {n : Option Nat} {x : AO} (e : pop md (.load n x) rs vs σ = some (v, σ')) : Out X σ' v (aop (.load n x) ars avs X.h) := by
  simp only [pop] at e
  obtain ⟨e, rfl⟩ := pret_eq e
  obtain ⟨a, h1, h2⟩ := load_rel hp hr hv (AO.rel hr hv x) e
  exact .same hp (by simp [aop, ret1, h1]) h2
/-- A write into an object. -/
theorem write_rel {b o : Nat} {B off : Nat} {pvs : List PV} {al : List AV} (hob : X.ob b = some (B, off)) (hl : VRelL X pvs al) (e : pwriteAt σ b o pvs = some σ') :
    ∃ X', writeAt X.h B (off + o) al = some X'.h ∧ Tr X X' ∧ PRel X' σ' ∧ X'.ob = X.ob ∧ X'.O = X.O := by
  unfold pwriteAt at e
  split at e
  · rename_i c ez hb
    split at e
    · rename_i c' hlt hok hs
      injection e with e; subst e
      obtain ⟨B', off', acs, cc, prev, h1, h2, h3, h4, h5, h6, h7, h8, h9⟩ := hp.obj b c _ hb
      rw [hob] at h1; injection h1 with h1; injection h1 with e1 e2; subst e1; subst e2
      obtain ⟨b1, b2⟩ := psplice_rel hs h7 hl
      obtain ⟨cc', c1, c2, c3⟩ := splice_part h6 b1
      have hlim := h9 (blt_false.1 hlt)
      have hkill : ∃ h1, killAll X.h prev = some h1 := by
        have : ∀ (ps : List Nat) (h : AHeap), (∀ q ∈ ps, h.lim ≤ q) → ∃ h1, killAll h ps = some h1 := by
          intro ps
          induction ps with
          | nil => intro h _; exact ⟨h, rfl⟩
          | cons q ps ih =>
            intro h hq
            simp only [killAll]
            have : Nat.blt q h.lim = false := blt_false.2 (hq q (by simp))
            rw [this]
            exact ih _ (fun q' hq' => by simpa using hq q' (by simp [hq']))
        exact this prev X.h hlim.2
      obtain ⟨hk, hk1⟩ := hkill
      have hw : writeAt X.h B (off + o) al = some (hk.put B (.cells cc' .rw [] ez)) := by
        have hbl : Nat.blt B X.h.lim = false := blt_false.2 hlim.1
        simp only [writeAt, h5, hbl, pokCells_ok hl hok, c1, hk1]
      obtain ⟨k1, k2, k3, k4⟩ := killAll_spec hk1
      obtain ⟨t1, t2⟩ := hp.write (h' := hk.put B (.cells cc' .rw [] ez)) (cs' := c') hb hob h2 h5 (fun q hq => ⟨(h8 q hq).2.1, (h8 q hq).2.2⟩) (by simpa using k1) (by simpa using k2)
        (fun x => by rw [AHeap.get_put, k4]) h4 (fun hle => (h9 hle).1) c2 b2
      exact ⟨_, hw, t1, t2, rfl, rfl⟩
    · cases e
  · cases e
theorem o_store {n : Nat} {x y : AO} (e : pop md (.store n x y) rs vs σ = some (v, σ')) : Out X σ' v (aop (.store n x y) ars avs X.h) := by
  simp only [pop] at e
  have e1 := (pskip_eq e).1
  have e2 := (pskip_eq e).2
  clear e
  have e := e1
  clear e1
  subst e2
  have hx := AO.rel hr hv x
  have hy := AO.rel hr hv y
  generalize hq : x.ev ars avs = q at hx
  unfold pstoreAt at e
  split at e
  · rename_i b o h1
    rw [h1] at hx
    split at e
    · rename_i hb
      cases hx with
      | p _ _ B off hob =>
        have hok : pokCells (y.pev rs vs).cellsOf = true := by
          unfold pwriteAt at e
          split at e
          · split at e
            · assumption
            · cases e
          · cases e
        have hl := cellsOf_rel hy hok
        obtain ⟨X', w1, w2, w3, _⟩ := write_rel hp hr hv hob hl e
        refine .of (a := .tup []) (X' := X') ?_ w2 w3 (.tup _ _ .nil)
        have hb' : Nat.beq (len_ (y.ev ars avs).cellsOf) n = true := by rw [len_len, ← hl.length]; exact hb
        simp only [aop, hq, storeAt, hb', w1, skip1]
    · cases e
  · cases e
theorem o_nilck {x : AO} (e : pop md (.nilck x) rs vs σ = some (v, σ')) : Out X σ' v (aop (.nilck x) ars avs X.h) := by
  simp only [pop] at e
  have hx := AO.rel hr hv x
  split at e
  · rename_i h1; rw [h1] at hx
    simp only [Option.some.injEq, Prod.mk.injEq] at e; obtain ⟨rfl, rfl⟩ := e
    generalize hq : x.ev ars avs = q at hx
    cases hx with
    | p _ _ B off hob => exact .same hp (by simp only [aop, hq]) (.p _ _ _ _ hob)
  · rename_i h1; rw [h1] at hx
    split at e
    · rename_i hrd
      simp only [Option.some.injEq, Prod.mk.injEq] at e; obtain ⟨rfl, rfl⟩ := e
      generalize hq : x.ev ars avs = q at hx
      cases hx with
      | pls _ _ _ B oA hcr => exact .same hp (by simp only [aop, hq]) (.pls _ _ _ _ _ hcr)
      | plsx r v1 cs o a hs ha => exact (not_stale (reads_of hp hrd) hs).elim
    · cases e
  · rename_i h1; rw [h1] at hx
    simp only [Option.some.injEq, Prod.mk.injEq] at e; obtain ⟨rfl, rfl⟩ := e
    generalize hq : x.ev ars avs = q at hx
    cases hx with
    | f _ _ _ _ _ h1 h2 => exact .same hp (by simp only [aop, hq]) (.f _ _ _ _ _ h1 h2)
  · cases e
end
end Go.Av
