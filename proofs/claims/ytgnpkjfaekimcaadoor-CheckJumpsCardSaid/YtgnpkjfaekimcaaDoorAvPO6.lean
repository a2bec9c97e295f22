/- The second machine's operations: maps; all operations. -/
import Derived.Test.YtgnpkjfaekimcaaDoorAvPO5
set_option linter.unusedVariables false
set_option linter.unusedSimpArgs false
set_option linter.unusedSectionVars false
namespace Go.Av
variable {X X' X1 Y : Cx} {σ σ' : PH} {v v' : PV} {a : AV} {l l' : List PV} {r al : List AV} {h h' : AHeap} {rs vs : List PV} {ars avs : List AV}

theorem pkeyEq_rel {kk : KK} {x y : PV} {ax ay : AV} {b : Bool} (hx : VRel X x ax) (hy : VRel X y ay) (e : pkeyEq kk x y = some b) : keyEq kk ax ay = some b := by
  unfold pkeyEq at e
  split at e
  · exact pleafEq_rel hx hy e
  · split at e
    · cases hx with
      | agg _ _ hx => cases hy with
        | agg _ _ hy => exact pleavesEq_rel hx hy e
    · cases e
theorem pokKey_rel {kk : KK} {x : PV} {ax : AV} (hx : VRel X x ax) (e : pokKey kk x = true) : okKey kk ax = true := by
  unfold pokKey at e
  split at e
  · rename_i h1
    unfold okKey; rw [pkeyEq_rel hx hx h1]
  · cases e
theorem pmfind_rel {kk : KK} {k : PV} {ak : AV} (hk : VRel X k ak) : ∀ {es : List (PV × PV × Nat)} {aes : List (AV × AV × Nat)} {j : Nat} {q : Option (Nat × PV × Nat)}, MRel X es aes → pmfind kk k es j = some q →
    (q = none ∧ mfind kk ak aes j = some none) ∨ ∃ i v av b, q = some (i, v, b) ∧ mfind kk ak aes j = some (some (i, av, b)) ∧ VRel X v av
  | [], _, j, q, .nil, e => by
    simp only [pmfind, Option.some.injEq] at e; subst e
    exact .inl ⟨rfl, rfl⟩
  | _ :: es, _, j, q, .cons k' v ak' av b _ r hk' hv hl, e => by
    simp only [pmfind] at e
    split at e
    · rename_i h1
      simp only [Option.some.injEq] at e; subst e
      exact .inr ⟨j, v, av, b, rfl, by simp only [mfind, pkeyEq_rel hk hk' h1], hv⟩
    · rename_i h1
      rcases pmfind_rel hk hl e with ⟨h2, h3⟩ | ⟨i, v2, av2, b2, h2, h3, h4⟩
      · exact .inl ⟨h2, by simp only [mfind, pkeyEq_rel hk hk' h1, h3]⟩
      · exact .inr ⟨i, v2, av2, b2, h2, by simp only [mfind, pkeyEq_rel hk hk' h1, h3], h4⟩
    · cases e
theorem pmset_rel {w : PV} {aw : AV} (hw : VRel X w aw) : ∀ {es : List (PV × PV × Nat)} {aes : List (AV × AV × Nat)} (j : Nat), MRel X es aes → MRel X (pmset es j w) (mset aes j aw)
  | [], _, j, .nil => .nil
  | _ :: es, _, 0, .cons k' v ak' av b _ r hk' hv hl => .cons _ _ _ _ _ _ _ hk' hw hl
  | _ :: es, _, j + 1, .cons k' v ak' av b _ r hk' hv hl => .cons _ _ _ _ _ _ _ hk' hv (pmset_rel hw j hl)
theorem pmdel_rel : ∀ {es : List (PV × PV × Nat)} {aes : List (AV × AV × Nat)} (j : Nat), MRel X es aes → MRel X (pmdel es j) (mdel aes j)
  | [], _, j, .nil => .nil
  | _ :: es, _, 0, .cons k' v ak' av b _ r hk' hv hl => hl
  | _ :: es, _, j + 1, .cons k' v ak' av b _ r hk' hv hl => .cons _ _ _ _ _ _ _ hk' hv (pmdel_rel j hl)
theorem MRel.append : ∀ {l1 l2 : List (PV × PV × Nat)} {r1 r2 : List (AV × AV × Nat)}, MRel X l1 r1 → MRel X l2 r2 → MRel X (l1 ++ l2) (r1 ++ r2)
  | _, _, _, _, .nil, h => h
  | _, _, _, _, .cons _ _ _ _ _ _ _ hk hv hl, h => .cons _ _ _ _ _ _ _ hk hv (hl.append h)
theorem pmborn_rel : ∀ {es : List (PV × PV × Nat)} {aes : List (AV × AV × Nat)} {s j : Nat}, MRel X es aes → mborn aes s j = pmborn es s j
  | [], _, s, j, .nil => rfl
  | _ :: es, _, s, j, .cons k' v ak' av b _ r hk' hv hl => by
    simp only [mborn, pmborn, pmborn_rel hl]
    cases Nat.beq b s <;> rfl

section
variable (hp : PRel X σ) (hn : NoFr X) (hr : VRelL X rs ars) (hv : VRelL X vs avs) {md : Mode}
include hp hr hv

theorem plookOut_rel {ok is : Bool} {z : PV} {az : AV} (hz : VRel X z az) : VRel X (plookOut ok z is) (lookOut ok az is) := by
  cases ok with
  | false => exact hz
  | true => exact .tup _ _ (.cons _ _ _ _ hz (.cons _ _ _ _ (.b _) .nil))
theorem o_look {kk : KK} {z : AV} {ok : Bool} {m k : AO} (e : pop md (.look kk z ok m k) rs vs σ = some (v, σ')) : Out X σ' v (aop (.look kk z ok m k) ars avs X.h) := by
  simp only [pop] at e
  have e1 := (pret_eq e).1
  have e2 := (pret_eq e).2
  clear e
  subst e2
  have hm := AO.rel hr hv m
  have hk := AO.rel hr hv k
  show Out X _ v (ret1 X.h (aLook X.h kk z ok (m.ev ars avs) (k.ev ars avs)))
  generalize m.ev ars avs = am at hm
  generalize k.ev ars avs = ak at hk
  unfold pLook at e1
  split at e1
  · rename_i h1 h2
    rw [h2] at hm; cases hm
    injection e1 with e1; subst e1
    refine .same hp ?_ (plookOut_rel (σ := σ') hp hr hv (ofAV_rel z))
    simp only [aLook, pokKey_rel hk h1, ret1]
  · rename_i b h1 h2
    rw [h2] at hm
    split at e1
    · rename_i es cl hb
      obtain ⟨B, aes, g1, g2, g3, g4, g5, g6⟩ := hp.map b es cl hb
      cases hm with
      | m _ _ hob =>
        rw [g1] at hob; injection hob with hob; injection hob with e3 _; subst e3
        split at e1
        · rename_i h3
          injection e1 with e1; subst e1
          rcases pmfind_rel hk g5 h3 with ⟨h4, _⟩ | ⟨i, v2, av2, b2, h4, h5, h6⟩
          · cases h4
          · injection h4 with h4; injection h4 with h7 h8; injection h8 with h8 h9; subst h8
            refine .same hp ?_ (plookOut_rel (σ := σ') hp hr hv h6)
            simp only [aLook, pokKey_rel hk h1, g4, h5, ret1]
        · rename_i h3
          injection e1 with e1; subst e1
          rcases pmfind_rel hk g5 h3 with ⟨_, h5⟩ | ⟨i, v2, av2, b2, h4, _⟩
          · refine .same hp ?_ (plookOut_rel (σ := σ') hp hr hv (ofAV_rel z))
            simp only [aLook, pokKey_rel hk h1, g4, h5, ret1]
          · cases h4
        · cases e1
    · cases e1
  · cases e1
theorem o_mupd {kk : KK} {m k w : AO} (e : pop md (.mupd kk m k w) rs vs σ = some (v, σ')) : Out X σ' v (aop (.mupd kk m k w) ars avs X.h) := by
  simp only [pop] at e
  have e1 := (pskip_eq e).1
  have e2 := (pskip_eq e).2
  clear e
  subst e2
  have hm := AO.rel hr hv m
  have hk := AO.rel hr hv k
  have hw := AO.rel hr hv w
  show Out X _ _ (skip1 (aMupd X.h kk (m.ev ars avs) (k.ev ars avs) (w.ev ars avs)))
  generalize m.ev ars avs = am at hm
  generalize k.ev ars avs = ak at hk
  generalize w.ev ars avs = aw at hw
  unfold pMupd at e1
  split at e1
  · rename_i b h1 h2
    rw [h2] at hm
    split at e1
    · rename_i es cl hb hlt
      obtain ⟨B, aes, g1, g2, g3, g4, g5, g6⟩ := hp.map b es cl hb
      have hlB : Nat.blt B X.h.lim = false := blt_false.2 (g6 (blt_false.1 hlt))
      cases hm with
      | m _ _ hob =>
        rw [g1] at hob; injection hob with hob; injection hob with e3 _; subst e3
        split at e1
        · rename_i h3
          injection e1 with e1; subst e1
          rcases pmfind_rel hk g5 h3 with ⟨h4, _⟩ | ⟨i, v2, av2, b2, h4, h5, h6⟩
          · cases h4
          · injection h4 with h4; injection h4 with h7 h8; subst h7
            obtain ⟨k1, k2⟩ := hp.writeM (cl' := cl) hb g1 g2 g4 g6 (pmset_rel hw _ g5)
            refine .of (a := .tup []) ?_ k1 k2 (.tup _ _ .nil)
            simp only [aMupd, pokKey_rel hk h1, g4, hlB, h5, skip1]; rfl
        · rename_i h3
          injection e1 with e1; subst e1
          rcases pmfind_rel hk g5 h3 with ⟨_, h5⟩ | ⟨i, v2, av2, b2, h4, _⟩
          · obtain ⟨k1, k2⟩ := hp.writeM (cl' := cl + 1) hb g1 g2 g4 g6 (g5.append (.cons _ _ _ _ cl _ _ hk hw .nil))
            refine .of (a := .tup []) ?_ k1 k2 (.tup _ _ .nil)
            simp only [aMupd, pokKey_rel hk h1, g4, hlB, h5, skip1]; rfl
          · cases h4
        · cases e1
    · cases e1
  · cases e1
theorem o_ment {kk : KK} {z : AV} {m k : AO} (e : pop md (.ment kk z m k) rs vs σ = some (v, σ')) : Out X σ' v (aop (.ment kk z m k) ars avs X.h) := by
  simp only [pop] at e
  have hm := AO.rel hr hv m
  have hk := AO.rel hr hv k
  show Out X _ _ (aMent X.h kk z (m.ev ars avs) (k.ev ars avs))
  generalize m.ev ars avs = am at hm
  generalize k.ev ars avs = ak at hk
  unfold pMent at e
  split at e
  · rename_i b h1 h2
    rw [h2] at hm
    split at e
    · rename_i es cl hb hlt
      obtain ⟨B, aes, g1, g2, g3, g4, g5, g6⟩ := hp.map b es cl hb
      have hlB : Nat.blt B X.h.lim = false := blt_false.2 (g6 (blt_false.1 hlt))
      cases hm with
      | m _ _ hob =>
        rw [g1] at hob; injection hob with hob; injection hob with e3 _; subst e3
        split at e
        · rename_i h3
          simp only [Option.some.injEq, Prod.mk.injEq] at e; obtain ⟨rfl, rfl⟩ := e
          rcases pmfind_rel hk g5 h3 with ⟨h4, _⟩ | ⟨i, v2, av2, b2, h4, h5, h6⟩
          · cases h4
          · injection h4 with h4; injection h4 with h7 h8; injection h8 with h8 h9; subst h8; subst h9
            refine .same hp ?_ (.tup _ _ (.cons _ _ _ _ h6 (.cons _ _ _ _ (.i _ _) .nil)))
            simp only [aMent, pokKey_rel hk h1, g4, hlB, h5]
        · rename_i h3
          simp only [Option.some.injEq, Prod.mk.injEq] at e; obtain ⟨rfl, rfl⟩ := e
          rcases pmfind_rel hk g5 h3 with ⟨_, h5⟩ | ⟨i, v2, av2, b2, h4, _⟩
          · obtain ⟨k1, k2⟩ := hp.writeM (cl' := cl + 1) hb g1 g2 g4 g6 (g5.append (.cons _ _ _ _ cl _ _ hk (ofAV_rel z) .nil))
            refine .of ?_ k1 k2 (.tup _ _ (.cons _ _ _ _ ((ofAV_rel z)) (.cons _ _ _ _ (.i _ _) .nil)))
            simp only [aMent, pokKey_rel hk h1, g4, hlB, h5]; rfl
          · cases h4
        · cases e
    · cases e
  · cases e
theorem o_estore {m s w : AO} (e : pop md (.estore m s w) rs vs σ = some (v, σ')) : Out X σ' v (aop (.estore m s w) ars avs X.h) := by
  simp only [pop] at e
  have e1 := (pskip_eq e).1
  have e2 := (pskip_eq e).2
  clear e
  subst e2
  have hm := AO.rel hr hv m
  have hs := AO.rel hr hv s
  have hw := AO.rel hr hv w
  show Out X _ _ (skip1 (aEstore X.h (m.ev ars avs) (s.ev ars avs) (w.ev ars avs)))
  generalize m.ev ars avs = am at hm
  generalize s.ev ars avs = as at hs
  generalize w.ev ars avs = aw at hw
  unfold pEstore at e1
  split at e1
  · rename_i b kd n h1 h2
    rw [h1] at hm; rw [h2] at hs
    cases hs
    split at e1
    · rename_i es cl hb hlt
      obtain ⟨B, aes, g1, g2, g3, g4, g5, g6⟩ := hp.map b es cl hb
      have hlB : Nat.blt B X.h.lim = false := blt_false.2 (g6 (blt_false.1 hlt))
      cases hm with
      | m _ _ hob =>
        rw [g1] at hob; injection hob with hob; injection hob with e3 _; subst e3
        split at e1
        · rename_i j h3
          injection e1 with e1; subst e1
          obtain ⟨k1, k2⟩ := hp.writeM (cl' := cl) hb g1 g2 g4 g6 (pmset_rel hw j g5)
          refine .of (a := .tup []) ?_ k1 k2 (.tup _ _ .nil)
          simp only [aEstore, g4, hlB, pmborn_rel g5, h3, skip1]; rfl
        · cases e1
    · cases e1
  · cases e1
theorem o_del {kk : KK} {m k : AO} (e : pop md (.del kk m k) rs vs σ = some (v, σ')) : Out X σ' v (aop (.del kk m k) ars avs X.h) := by
  simp only [pop] at e
  have hm := AO.rel hr hv m
  have hk := AO.rel hr hv k
  generalize hq : m.ev ars avs = am at hm
  generalize hq2 : k.ev ars avs = ak at hk
  split at e
  · rename_i σ1 e1
    simp only [Option.some.injEq, Prod.mk.injEq] at e; obtain ⟨rfl, rfl⟩ := e
    unfold pDel at e1
    split at e1
    · rename_i h1 h2
      rw [h2] at hm; cases hm
      injection e1 with e1; subst e1
      refine .same hp (a := .tup []) ?_ (.tup _ _ .nil)
      simp only [aop, hq, hq2, aDel, pokKey_rel hk h1]
    · rename_i b h1 h2
      rw [h2] at hm
      split at e1
      · rename_i es cl hb hlt
        obtain ⟨B, aes, g1, g2, g3, g4, g5, g6⟩ := hp.map b es cl hb
        have hlB : Nat.blt B X.h.lim = false := blt_false.2 (g6 (blt_false.1 hlt))
        cases hm with
        | m _ _ hob =>
          rw [g1] at hob; injection hob with hob; injection hob with e3 _; subst e3
          split at e1
          · rename_i j v3 b3 h3
            injection e1 with e1; subst e1
            rcases pmfind_rel hk g5 h3 with ⟨h4, _⟩ | ⟨i, v2, av2, b2, h4, h5, h6⟩
            · cases h4
            · injection h4 with h4; injection h4 with h7 h8; subst h7
              obtain ⟨k1, k2⟩ := hp.writeM (cl' := cl) hb g1 g2 g4 g6 (pmdel_rel j g5)
              refine .of (a := .tup []) ?_ k1 k2 (.tup _ _ .nil)
              simp only [aop, hq, hq2, aDel, pokKey_rel hk h1, g4, hlB, h5]; rfl
          · rename_i h3
            injection e1 with e1; subst e1
            rcases pmfind_rel hk g5 h3 with ⟨_, h5⟩ | ⟨i, v2, av2, b2, h4, _⟩
            · refine .same hp (a := .tup []) ?_ (.tup _ _ .nil)
              simp only [aop, hq, hq2, aDel, pokKey_rel hk h1, g4, hlB, h5]
            · cases h4
          · cases e1
      · cases e1
    · cases e1
  · cases e
include hn
/-- Any operation but a call. -/
theorem pop_rel {o : AOp} (e : pop md o rs vs σ = some (v, σ')) : Out X σ' v (aop o ars avs X.h) := by
  cases o with
  | mv => exact o_mv hp hr hv e
  | pick => exact o_pick hp hr hv e
  | box => exact o_box hp hn hr hv e
  | build => exact o_build hp hr hv e
  | buildSl => exact o_buildSl hp hn hr hv e
  | load => exact o_load hp hr hv e
  | store => exact o_store hp hr hv e
  | nilck => exact o_nilck hp hr hv e
  | asS => exact o_asS hp hr hv e
  | bad => cases e
  | bin => exact o_bin hp hr hv e
  | eq => exact o_eq hp hr hv e
  | eqA => exact o_eqA hp hr hv e
  | un => exact o_un hp hr hv e
  | conv => exact o_conv hp hr hv e
  | s2b => exact o_s2b hp hn hr hv e
  | b2s => exact o_b2s hp hr hv e
  | mkifc => exact o_mkifc hp hr hv e
  | mkfn => exact o_mkfn hp hr hv e
  | mkmap => exact o_mkmap hp hn hr hv e
  | mksl => exact o_mksl hp hn hr hv e
  | slS => exact o_slS hp hr hv e
  | slSl => exact o_slSl hp hr hv e
  | slA => exact o_slA hp hr hv e
  | faddr => exact o_faddr hp hr hv e
  | fld => exact o_fld hp hr hv e
  | iaA => exact o_iaA hp hr hv e
  | iaS => exact o_iaS hp hr hv e
  | idxA => exact o_idxA hp hr hv e
  | idxS => exact o_idxS hp hr hv e
  | look => exact o_look hp hr hv e
  | mupd => exact o_mupd hp hr hv e
  | ment => exact o_ment hp hr hv e
  | estore => exact o_estore hp hr hv e
  | del => exact o_del hp hr hv e
  | ext => exact o_ext hp hr hv e
  | len => exact o_len hp hr hv e
  | cap => exact o_cap hp hr hv e
  | append => exact o_append hp hn hr hv e
  | appendZ => exact o_appendZ hp hn hr hv e
  | copy => exact o_copy hp hr hv e
  | min => exact o_min hp hr hv e
  | max => exact o_max hp hr hv e
  | call => cases e
end
end Go.Av
