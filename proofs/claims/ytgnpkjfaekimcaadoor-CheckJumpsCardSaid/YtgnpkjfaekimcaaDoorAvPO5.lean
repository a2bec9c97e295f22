/- The second machine's operations: appends, copies, maps. -/
import Derived.Test.YtgnpkjfaekimcaaDoorAvPO4
set_option linter.unusedVariables false
set_option linter.unusedSimpArgs false
set_option linter.unusedSectionVars false
namespace Go.Av
variable {X X' X1 Y : Cx} {σ σ' : PH} {v v' : PV} {a : AV} {l l' : List PV} {r al : List AV} {h h' : AHeap} {rs vs : List PV} {ars avs : List AV}

theorem apN_nils {ez bytes n : Nat} {new : List AV} (hok : okCells new = true) (hb : big n bytes = false) : appendNew h ez bytes .nils n new = some (.sl h.n 0 n (.u 0), h.push (.cells new .rw [] ez)) := by
  unfold appendNew; rw [hok]; dsimp only; rw [hb]
theorem apN_k {ez bytes n b o sn c : Nat} {new old : List AV} (hok : okCells new = true) (hle : c < sn + n) (hb : big (sn + n) bytes = false) (hf : firstCells h ez sn (.sl b o sn (.k c)) = some old) :
    appendNew h ez bytes (.sl b o sn (.k c)) n new = some (.sl h.n 0 (sn + n) (.u 0), h.push (.cells (old ++ new) .rw [] ez)) := by
  have h1 : Nat.ble (sn + n) c = false := by
    cases e : Nat.ble (sn + n) c with
    | false => rfl
    | true => have := ble_iff.1 e; omega
  unfold appendNew; rw [hok]; dsimp only; rw [h1]; dsimp only; rw [hb, hf]
theorem apN_kw {ez bytes n b o sn c : Nat} {new : List AV} (hok : okCells new = true) (hle : sn + n ≤ c) (hw : writeAt h b (o + sn * ez) new = some h') :
    appendNew h ez bytes (.sl b o sn (.k c)) n new = some (.sl b o (sn + n) (.k c), h') := by
  unfold appendNew; rw [hok]; dsimp only; rw [ble_iff.2 hle]; dsimp only; rw [hw]
theorem apN_uw {ez bytes n b o sn e : Nat} {new cc : List AV} {prev : List Nat} (hok : okCells new = true) (hg : h.get b = some (.cells cc .rw prev ez)) (ho : o = e * ez) (hle : o + (sn + n) * ez ≤ cc.length) (hw : writeAt h b (o + sn * ez) new = some h') :
    appendNew h ez bytes (.sl b o sn (.u e)) n new = some (.sl b o (sn + n) (.u e), h') := by
  unfold appendNew; rw [hok]; dsimp only; rw [hg]; dsimp only
  rw [beq_iff.2 rfl, beq_iff.2 ho]; dsimp only
  rw [len_len, ble_iff.2 hle]; dsimp only; rw [hw]
theorem apN_un {ez bytes n b o sn e : Nat} {new old cc : List AV} {prev : List Nat} (hok : okCells new = true) (hg : h.get b = some (.cells cc .rw prev ez)) (ho : o = e * ez) (hle : cc.length < o + (sn + n) * ez) (hend : o + sn * ez = cc.length)
    (hb : big (sn + n) bytes = false) (hf : firstCells h ez sn (.sl b o sn (.u e)) = some old) :
    appendNew h ez bytes (.sl b o sn (.u e)) n new = some (.sl h.n 0 (sn + n) (.u 0), (h.put b (.cells cc .sh [] ez)).push (.cells (old ++ new) .rw (b :: prev) ez)) := by
  have h1 : Nat.ble (o + (sn + n) * ez) (len_ cc) = false := by
    rw [len_len]
    cases e : Nat.ble (o + (sn + n) * ez) cc.length with
    | false => rfl
    | true => have := ble_iff.1 e; omega
  unfold appendNew; rw [hok]; dsimp only; rw [hg]; dsimp only
  rw [beq_iff.2 rfl, beq_iff.2 ho]; dsimp only
  rw [h1]; dsimp only
  rw [len_len, beq_iff.2 hend, hb, hf]
theorem first_sl {ez n b o m : Nat} {c : ACap} {cc acs : List AV} {st : ASt} {prev : List Nat} {ez' : Nat} (hg : h.get b = some (.cells cc st prev ez')) (hs : sub cc o (n * ez) = some acs) : firstCells h ez n (.sl b o m c) = some acs := by
  cases n with
  | zero =>
    have := sub_len hs
    simp at this
    rw [this]; rfl
  | succ n => simp only [firstCells, hg]; exact hs

section
variable (hp : PRel X σ) (hn : NoFr X) {md : Mode}
include hp hn

theorem appendNew_rel {ez bytes n : Nat} {s : PV} {as : AV} {new : List PV} {anew : List AV} (hs : VRel X s as) (hl : VRelL X new anew) (hc : cloL false new = true) (hlen : new.length = n * ez)
    (e : pappendNew σ ez bytes s n new = some (v, σ')) (hn0 : 0 < n) : Out X σ' v (appendNew X.h ez bytes as n anew) := by
  have hok : okCells anew = true := cloL_ok hl hc
  have halen := hl.length
  unfold pappendNew at e
  split at e
  · -- a view that has no room
    rename_i b tight sn cs
    split at e
    case h_2 => cases e
    rename_i hbig hcl hcc
    simp only [Option.some.injEq, Prod.mk.injEq] at e; obtain ⟨rfl, rfl⟩ := e
    have hcl := beq_iff.1 hcl
    have mk : ∀ {acs : List AV}, VRelL X cs acs → cloL false cs = true → appendNew X.h ez bytes as n anew = some (.sl X.h.n 0 (sn + n) (.u 0), X.h.push (.cells (acs ++ anew) .rw [] ez)) →
        Out X σ (.ls (.fresh (sn + n) ez) (sn + n) (cs ++ new)) (appendNew X.h ez bytes as n anew) := by
      intro acs hl2 hkc hres
      have hl3 := hl2.length
      obtain ⟨X', k, p, hh, ar⟩ := newFresh (ez := ez) (n := sn + n) (x := sn + n) (ac := .u 0) hp hn (hl2.append hl) (by rw [cloL_append, hc, hkc]; rfl) (by omega)
        ⟨Nat.le_refl _, .inl ⟨0, rfl, by simp, by simp only [List.length_append]; rw [← hl3, ← halen, hcl, hlen, Nat.add_mul]; omega⟩⟩ (by simp; omega)
      exact ⟨_, _, X', hres, k, p, hh, ar⟩
    cases hs with
    | ls0 _ _ _ hz =>
      refine mk .nil rfl ?_
      cases as with
      | nils => have := apN_nils (h := X.h) (ez := ez) hok (n := 0 + n) hbig; simpa using this
      | sl b' o n' c =>
        obtain ⟨rfl, hc0⟩ := hz
        rw [hc0 rfl]
        exact apN_k hok (by omega) hbig rfl
      | _ => cases hz
    | lsv _ _ _ _ B oA ac hcr ht hk =>
      have hac := ht rfl
      subst hac
      cases hcr with
      | v _ _ _ acs _ _ hl2 hct ho hg hk2 =>
        obtain ⟨c1, c2, cc, st, prev, ez', c3, c4⟩ := hct
        have hkc : cloL false cs = true := by
          cases b with
          | false => exact hk2
          | true =>
            cases cs with
            | nil => rfl
            | cons => simp [isNilL] at hcc
        exact mk hl2 hkc (apN_k hok (by omega) hbig (first_sl c3 (by rw [← hcl, hl2.length]; exact c4)))
  · -- what may be appended to
    rename_i r v1 sn cs
    split at e
    case h_2 => cases e
    rename_i v2 x ez' hrt
    split at e
    case h_2 => cases e
    rename_i hvv hez hcl
    have hcl := beq_iff.1 hcl
    have := beq_iff.1 hvv; subst this
    have hr' : getR X.rt r = .live v1 x ez' := by rw [hp.rt]; exact hrt
    have hlt := getR_lt hr' (by simp)
    have hclen : ∀ {acs : List AV}, VRelL X cs acs → acs.length = sn * ez := fun hl2 => by rw [← hl2.length]; exact hcl
    -- a new block
    have newB : ∀ {acs : List AV} {prev : List Nat} {h1 : AHeap} {x' : Nat}, VRelL X cs acs → cloL false cs = true → x' = sn + n → h1.n = X.h.n → h1.lim = X.h.lim → (∀ C, (∃ o, X.O C = o ∧ o ≠ some (.rt r)) → h1.get C = X.h.get C) →
        (∀ q ∈ prev, X.O q = some (.rt r)) → (σ.rlim ≤ r → ∀ q ∈ prev, X.h.lim ≤ q) →
        appendNew X.h ez bytes as n anew = some (.sl X.h.n 0 (sn + n) (.u 0), h1.push (.cells (acs ++ anew) .rw prev ez)) →
        Out X (σ.setRoot r (.live (v1 + 1) x' ez)) (.ls (.own r (v1 + 1)) (sn + n) (cs ++ new)) (appendNew X.h ez bytes as n anew) := by
      intro acs prev h1 x' hl2 hkc hx' hn1 hlim1 hget hpv hpl hres
      subst hx'
      have hal2 := hclen hl2
      have hgB : (h1.push (.cells (acs ++ anew) .rw prev ez)).get X.h.n = some (.cells (acs ++ anew) .rw prev ez) := by rw [AHeap.get_push, if_pos hn1.symm]
      have hpn : ∀ q ∈ prev, q < X.h.n := fun q hq => hp.own q _ (hpv q hq)
      obtain ⟨k1, k2⟩ := hp.grown (v' := v1 + 1) (x' := sn + n) (ez' := ez) (B := X.h.n) (h' := h1.push (.cells (acs ++ anew) .rw prev ez)) hr' (Nat.lt_succ_self _) (.inr (Nat.le_refl _)) (by simp; omega) (fun hle => ⟨hp.lim, hpl hle⟩) (hp.newG _ (Nat.le_refl _))
        (by simp; omega) (by simpa using hlim1) hgB (fun q hq => ⟨by have := hpn q hq; simp; omega, hpv q hq, by have := hpn q hq; omega⟩) (fun C o h ho hC => by rw [AHeap.get_push, if_neg (by omega)]; exact hget C ⟨o, h, ho⟩)
      have hg2 : getR (X.grown r (.live (v1 + 1) (sn + n) ez) X.h.n (h1.push (.cells (acs ++ anew) .rw prev ez))).rt r = .live (v1 + 1) (sn + n) ez := (getR_setR' _ _ _ _ hlt).trans (if_pos rfl)
      have hrb : (X.grown r (.live (v1 + 1) (sn + n) ez) X.h.n (h1.push (.cells (acs ++ anew) .rw prev ez))).rb r = X.h.n := by show (if _ then _ else _) = _; rw [if_pos rfl]
      refine .of (X' := X.grown r (.live (v1 + 1) (sn + n) ez) X.h.n (h1.push (.cells (acs ++ anew) .rw prev ez))) hres k1 k2 ?_
      have hvl := (hl2.append hl).tr k1
      have hcl2 : cloL false (cs ++ new) = true := by rw [cloL_append, hkc, hc]; rfl
      have key := VRel.lo (X := X.grown r (.live (v1 + 1) (sn + n) ez) X.h.n (h1.push (.cells (acs ++ anew) .rw prev ez))) r (v1 + 1) (sn + n) ez (sn + n) (cs ++ new) 0 (.u 0) (acs ++ anew) prev hg2 (by omega) (by rw [hrb]; exact hgB)
        ⟨Nat.le_refl _, .inl ⟨0, rfl, by simp, by simp only [List.length_append]; rw [hal2, ← halen, hlen, Nat.add_mul]; omega⟩⟩
        (.live _ _ (sn + n) ez _ (acs ++ anew) _ hg2 (by omega) hvl (by rw [hrb]; exact ⟨by show X.h.n < (h1.push _).n; simp; omega, cloL_ok hvl hcl2, _, .rw, prev, ez, hgB, sub_eq.2 ⟨by simp, by rw [List.drop_zero, List.take_length]⟩⟩) hcl2)
      rw [hrb] at key; exact key
    cases hs with
    | lo0 _ _ _ hh _ hz =>
      have hx0 : x = 0 := by
        rcases hh with ⟨ez2, e⟩ | e
        · rw [hr'] at e; injection e
        · rw [hr'] at e; cases e
      subst hx0
      split at e
      · rename_i hb
        simp only [Bool.and_eq_true] at hb
        have := ble_iff.1 hb.1; omega
      · split at e
        case h_2 => cases e
        rename_i _ _ hbig
        simp only [Option.some.injEq, Prod.mk.injEq] at e; obtain ⟨rfl, rfl⟩ := e
        refine newB .nil rfl rfl rfl rfl (fun C _ => rfl) (prev := []) (by simp) (by simp) ?_
        cases as with
        | nils => have := apN_nils (h := X.h) (ez := ez) hok (n := 0 + n) hbig; simpa using this
        | sl b' o n' c =>
          obtain ⟨rfl, hc0⟩ := hz
          rw [hc0 rfl]
          exact apN_k hok (by omega) hbig rfl
        | _ => cases hz
    | lo _ _ x2 ez2 _ _ oA ac cc prev hr2 hx2 hg hm hcr =>
      rw [hr'] at hr2; injection hr2 with e1 e2 e3; subst e2; subst e3
      have hez' : ez = ez' := by
        have hez2 := hez
        simp only [Bool.and_eq_true, Bool.or_eq_true] at hez2
        rcases hez2.1 with h | h
        · have := beq_iff.1 h; omega
        · exact beq_iff.1 h
      subst hez'
      obtain ⟨cc2, prev2, g1, g2, g3, g4, g5, g6⟩ := hp.root r v1 x ez hrt hx2
      rw [hg] at g1; injection g1 with g1; injection g1 with e1 _ e3 _; subst e1; subst e3
      cases hcr with
      | shut _ _ _ _ _ _ hr3 => rw [hr'] at hr3; cases hr3
      | live _ _ _ _ _ acs _ _ _ hl2 hct hkc =>
        have hal2 := hclen hl2
        obtain ⟨c1, c2, cc', st, prev', ez'', c3, c4⟩ := hct
        rw [hg] at c3; injection c3 with c3; injection c3 with e1 e2 e3 e4; subst e1; subst e2; subst e3; subst e4
        have hfc : ∀ c, firstCells X.h ez sn (.sl (X.rb r) oA sn c) = some acs := fun c => first_sl hg (by rw [← hal2]; exact c4)
        split at e
        · -- there is room
          rename_i hb
          simp only [Bool.and_eq_true, Bool.not_eq_true'] at hb
          have hle := ble_iff.1 hb.1
          have hrl := blt_false.1 hb.2
          simp only [Option.some.injEq, Prod.mk.injEq] at e; obtain ⟨rfl, rfl⟩ := e
          have hlim := g6 hrl
          have hmul : (sn + n) * ez ≤ x * ez := Nat.mul_le_mul_right _ hle
          have hroom : oA + x * ez ≤ cc.length := by rcases hm.2 with ⟨_, _, _, h3⟩ | ⟨_, h3⟩ <;> omega
          have hadd : (sn + n) * ez = sn * ez + n * ez := Nat.add_mul _ _ _
          have hspl := splice_ok (c := cc) (vs := anew) (o := oA + sn * ez) (by rw [← halen, hlen]; omega)
          have hkill : ∃ hk, killAll X.h prev = some hk := by
            have : ∀ (ps : List Nat) (h : AHeap), (∀ q ∈ ps, h.lim ≤ q) → ∃ h1, killAll h ps = some h1 := by
              intro ps
              induction ps with
              | nil => intro h _; exact ⟨h, rfl⟩
              | cons q ps ih =>
                intro h hq
                simp only [killAll]
                have : Nat.blt q h.lim = false := blt_false.2 (hq q (by simp))
                rw [this]
                exact ih _ (fun q' hq' => by simpa using hq q' (by simp [hq']))
            exact this prev X.h hlim.2
          obtain ⟨hk, hk1⟩ := hkill
          obtain ⟨kk1, kk2, kk3, kk4⟩ := killAll_spec hk1
          have hw : writeAt X.h (X.rb r) (oA + sn * ez) anew = some (hk.put (X.rb r) (.cells (cc.take (oA + sn * ez) ++ anew ++ cc.drop (oA + sn * ez + anew.length)) .rw [] ez)) := by
            have hbl : Nat.blt (X.rb r) X.h.lim = false := blt_false.2 hlim.1
            simp only [writeAt, hg, hbl, hok, hspl, hk1]
          generalize hcc' : cc.take (oA + sn * ez) ++ anew ++ cc.drop (oA + sn * ez + anew.length) = cc' at hw hspl
          have hlen' : cc'.length = cc.length := by rw [← hcc']; simp only [List.length_append, List.length_take, List.length_drop]; rw [← halen, hlen]; omega
          have hget : ∀ C, (hk.put (X.rb r) (.cells cc' .rw [] ez)).get C = if C = X.rb r then some (.cells cc' .rw [] ez) else if C ∈ prev then some .dead else X.h.get C := fun C => by rw [AHeap.get_put, kk4]
          obtain ⟨k1, k2⟩ := hp.grown (v' := v1 + 1) (x' := x) (ez' := ez) (B := X.rb r) (h' := hk.put (X.rb r) (.cells cc' .rw [] ez)) (prev := []) hr' (Nat.lt_succ_self _) (.inl g2) (by simp; omega) (fun hle => ⟨hlim.1, by simp⟩) g4
            (by simp; omega) (by simpa using kk2) (by rw [hget, if_pos rfl]) (by simp) (fun C o h ho hC => by
              rw [hget, if_neg (by rintro rfl; rw [g2] at h; exact ho h.symm), if_neg (fun hm => by have := (g5 C hm).2.1; rw [h] at this; exact ho this)])
          have hg2 : getR (X.grown r (.live (v1 + 1) x ez) (X.rb r) (hk.put (X.rb r) (.cells cc' .rw [] ez))).rt r = .live (v1 + 1) x ez := (getR_setR' _ _ _ _ hlt).trans (if_pos rfl)
          have hrb : (X.grown r (.live (v1 + 1) x ez) (X.rb r) (hk.put (X.rb r) (.cells cc' .rw [] ez))).rb r = X.rb r := by show (if _ then _ else _) = _; rw [if_pos rfl]
          have hgB : (X.grown r (.live (v1 + 1) x ez) (X.rb r) (hk.put (X.rb r) (.cells cc' .rw [] ez))).h.get (X.rb r) = some (.cells cc' .rw [] ez) := by
            show (hk.put (X.rb r) (.cells cc' .rw [] ez)).get (X.rb r) = _; rw [hget, if_pos rfl]
          have hvl := (hl2.append hl).tr k1
          have hcl2 : cloL false (cs ++ new) = true := by rw [cloL_append, hkc, hc]; rfl
          have hsub : sub cc' oA (acs ++ anew).length = some (acs ++ anew) := by
            obtain ⟨s1, s2⟩ := sub_eq.1 c4
            refine sub_eq.2 ⟨by rw [List.length_drop, hlen']; simp; rw [hal2, ← halen, hlen]; omega, ?_⟩
            rw [← hcc', List.append_assoc, List.drop_append_of_le_length (by rw [List.length_take]; omega), List.drop_take]
            have e1 : oA + sn * ez - oA = acs.length := by omega
            rw [e1, ← s2, List.length_append, ← List.append_assoc, List.take_append_of_le_length (by simp), List.take_of_length_le (by simp)]
          have key := VRel.lo (X := X.grown r (.live (v1 + 1) x ez) (X.rb r) (hk.put (X.rb r) (.cells cc' .rw [] ez))) r (v1 + 1) x ez (sn + n) (cs ++ new) oA ac cc' [] hg2 hx2 (by rw [hrb]; exact hgB)
            ⟨hle, by rw [hlen']; exact hm.2⟩ (.live _ _ x ez _ (acs ++ anew) _ hg2 hx2 hvl (by rw [hrb]; exact ⟨by show X.rb r < (hk.put _ _).n; simp; omega, cloL_ok hvl hcl2, cc', .rw, [], ez, hgB, hsub⟩) hcl2)
          rw [hrb] at key
          refine .of (X' := X.grown r (.live (v1 + 1) x ez) (X.rb r) (hk.put (X.rb r) (.cells cc' .rw [] ez))) ?_ k1 k2 key
          rcases hm.2 with ⟨e, h1, h2, h3⟩ | ⟨h1, h2⟩
          · subst h1; exact apN_uw hok hg h2 (by omega) hw
          · subst h1; exact apN_kw hok hle hw
        · -- there is none
          split at e
          case h_2 => cases e
          rename_i hsx _ hbig
          have hsx := beq_iff.1 hsx; subst hsx
          simp only [Option.some.injEq, Prod.mk.injEq] at e; obtain ⟨rfl, rfl⟩ := e
          rcases hm.2 with ⟨e, h1, h2, h3⟩ | ⟨h1, h2⟩
          · subst h1
            by_cases hez0 : ez = 0
            · have hez2 := hez
              simp only [Bool.and_eq_true] at hez2
              have := blt_iff.1 hez2.2; omega
            · refine newB (prev := X.rb r :: prev) (h1 := X.h.put (X.rb r) (.cells cc .sh [] ez)) hl2 hkc rfl rfl rfl (fun C ⟨o, h, ho⟩ => ?_) (fun q hq => ?_) (fun hle q hq => ?_) (apN_un hok hg h2 ?_ h3.symm hbig (hfc _))
              · rw [AHeap.get_put, if_neg (by rintro rfl; rw [g2] at h; exact ho h.symm)]
              · rcases List.mem_cons.1 hq with rfl | hq
                · exact g2
                · exact (g5 q hq).2.1
              · rcases List.mem_cons.1 hq with rfl | hq
                · exact (g6 hle).1
                · exact (g6 hle).2 q hq
              · rw [h3, Nat.add_mul]
                have : 0 < n * ez := Nat.mul_pos hn0 (by omega)
                omega
          · subst h1
            exact newB (prev := []) (h1 := X.h) hl2 hkc rfl rfl rfl (fun C _ => rfl) (by simp) (by simp) (apN_k hok (by omega) hbig (hfc _))
    | lsh _ _ _ _ _ _ _ hr2 => rw [hr'] at hr2; cases hr2
    | lx _ _ _ _ _ hs => exact (not_stale (.inl ⟨x, ez', hr'⟩) hs).elim
  · -- an object that has room
    rename_i b o sn c
    split at e
    case h_2 => cases e
    rename_i hle
    split at e
    case h_2 => cases e
    rename_i σ1 hw
    simp only [Option.some.injEq, Prod.mk.injEq] at e; obtain ⟨rfl, rfl⟩ := e
    cases hs with
    | sl _ _ _ _ B off ac hob hcap =>
      obtain ⟨rfl, hnc⟩ := hcap
      obtain ⟨X', w1, w2, w3, w4, _⟩ := write_rel (rs := []) (ars := []) (vs := []) (avs := []) hp .nil .nil hob hl hw
      rw [← Nat.add_assoc] at w1
      exact .of (a := .sl B (off + o) (sn + n) (.k c)) (X' := X') (apN_kw hok (ble_iff.1 hle) w1) w2 w3 (.sl _ _ _ _ _ _ _ (by rw [w4]; exact hob) ⟨rfl, ble_iff.1 hle⟩)
  · cases e
theorem o_append {ez bytes : Nat} {x y : AO} (hr : VRelL X rs ars) (hv : VRelL X vs avs) (e : pop md (.append ez bytes x y) rs vs σ = some (v, σ')) : Out X σ' v (aop (.append ez bytes x y) ars avs X.h) := by
  simp only [pop] at e
  have hx := AO.rel hr hv x
  have hy := AO.rel hr hv y
  show Out X σ' v (aAppend X.h ez bytes (x.ev ars avs) (y.ev ars avs))
  generalize x.ev ars avs = ax at hx
  generalize y.ev ars avs = ay at hy
  unfold pAppend at e
  split at e
  · cases e
  · rename_i h0
    have hl := plenOf_rel hp hy h0
    split at e
    · rename_i hsl
      simp only [Option.some.injEq, Prod.mk.injEq] at e; obtain ⟨rfl, rfl⟩ := e
      refine .same hp ?_ hx
      unfold aAppend
      rw [hl]
      rcases pisSl_rel hp hx hsl with rfl | ⟨b, o, k, c, rfl⟩ <;> rfl
    · cases e
  · rename_i n hn0 h0
    have hl := plenOf_rel hp hy h0
    split at e
    · cases e
    · rename_i new h1
      split at e
      · rename_i new' σ1 h2
        obtain ⟨al, b1, b2⟩ := pfirst_rel hp hy h1 (.inl h0)
        obtain ⟨X1, c1, q1, q2⟩ := mapC_rel (fun e hp hv => clo_rel 8 e hp hv) h2 hp b2
        have hnl : new.length = n * ez := by
          unfold pfirst at h1
          have psl : ∀ {c : List PV} {o m : Nat}, psub c o m = some new → new.length = m := by
            intro c o m h; unfold psub at h; split at h
            · injection h with h; subst h; simp; omega
            · cases h
          split at h1
          · split at h1
            · exact psl h1
            · cases h1
          · split at h1
            · exact psl h1
            · cases h1
          · split at h1
            · rw [psl h1]; omega
            · cases h1
          · cases h1
        have hnl' : new'.length = n * ez := (mapC_len h2).trans hnl
        have hpos : 0 < n := by
          cases n with
          | zero => exact absurd rfl hn0
          | succ n => omega
        obtain ⟨a, h', X2, r1, r2, r3, r4, r5⟩ := appendNew_rel c1.rel (hn.kp c1.kp) (hx.tr c1.tr) q1 q2 hnl' e hpos
        rw [c1.h] at r1
        refine ⟨a, h', X2, ?_, hp.trans c1.tr r2, r3, r4, r5⟩
        unfold aAppend
        rw [hl]
        cases n with
        | zero => omega
        | succ n => simp only [b1]; exact r1
      · cases e
omit hp hn in
theorem prep_clo {z : List PV} (n : Nat) (h : cloL false z = true) : cloL false (prep n z) = true := by
  unfold prep
  induction n with
  | zero => rfl
  | succ n ih => rw [List.replicate_succ, List.flatten_cons, cloL_append, h, ih]; rfl
omit hp hn in
theorem prep_len {z : List PV} (n : Nat) : (prep n z).length = n * z.length := by
  unfold prep
  induction n with
  | zero => simp
  | succ n ih => rw [List.replicate_succ, List.flatten_cons, List.length_append, ih, Nat.succ_mul]; omega
theorem o_appendZ {ez bytes : Nat} {z : List AV} {x y : AO} (hr : VRelL X rs ars) (hv : VRelL X vs avs) (e : pop md (.appendZ ez bytes z x y) rs vs σ = some (v, σ')) : Out X σ' v (aop (.appendZ ez bytes z x y) ars avs X.h) := by
  simp only [pop] at e
  have hx := AO.rel hr hv x
  have hy := AO.rel hr hv y
  show Out X σ' v (aAppendZ X.h ez bytes z (x.ev ars avs) (y.ev ars avs))
  generalize x.ev ars avs = ax at hx
  generalize y.ev ars avs = ay at hy
  unfold pAppendZ at e
  split at e
  · rename_i n h1
    rw [h1] at hy; cases hy
    split at e
    · rename_i hn0
      have hn0 := beq_iff.1 hn0; subst hn0
      split at e
      · rename_i hsl
        simp only [Option.some.injEq, Prod.mk.injEq] at e; obtain ⟨rfl, rfl⟩ := e
        refine .same hp ?_ hx
        unfold aAppendZ
        rcases pisSl_rel hp hx hsl with rfl | ⟨b, o, k, c, rfl⟩ <;> rfl
      · cases e
    · rename_i hne
      have hpos : 0 < n := by
        cases n with
        | zero => cases hne
        | succ n => omega
      split at e
      · rename_i hb hz hzl
        have hzl := beq_iff.1 hzl
        have := appendNew_rel hp hn hx (prep_rel (X := X) (z := z) n) (prep_clo n hz) (by rw [prep_len, hzl]) e hpos
        have he : aAppendZ X.h ez bytes z ax (.i .i64 (.ofNat n)) = appendNew X.h ez bytes ax n (rep n z) := by
          unfold aAppendZ
          cases n with
          | zero => omega
          | succ n => dsimp only; rw [hb]; rfl
        rw [he]; exact this
      · cases e
  · cases e
omit hn in
theorem o_copy {ez : Nat} {x y : AO} (hr : VRelL X rs ars) (hv : VRelL X vs avs) (e : pop md (.copy ez x y) rs vs σ = some (v, σ')) : Out X σ' v (aop (.copy ez x y) ars avs X.h) := by
  simp only [pop] at e
  have hx := AO.rel hr hv x
  have hy := AO.rel hr hv y
  show Out X σ' v (aCopy X.h ez (x.ev ars avs) (y.ev ars avs))
  generalize x.ev ars avs = ax at hx
  generalize y.ev ars avs = ay at hy
  unfold pCopy at e
  split at e
  · cases e
  · rename_i m h0
    have hl := plenOf_rel hp hy h0
    split at e
    · rename_i b o dn c hxx
      rw [hxx] at hx
      cases hx with
      | sl _ _ _ _ B off ac hob hcap =>
        split at e
        · rename_i hmin
          simp only [Option.some.injEq, Prod.mk.injEq] at e; obtain ⟨rfl, rfl⟩ := e
          refine .same hp (a := .i .i64 0) ?_ (.i _ _)
          unfold aCopy; rw [hl]; simp only; rw [hmin]; rfl
        · rename_i k hk0
          split at e
          · rename_i cs h1
            split at e
            · rename_i σ1 h2
              simp only [Option.some.injEq, Prod.mk.injEq] at e; obtain ⟨rfl, rfl⟩ := e
              obtain ⟨al, b1, b2⟩ := pfirst_rel hp hy h1 (.inr ⟨m, h0, Nat.min_le_left _ _⟩)
              obtain ⟨X', w1, w2, w3, _⟩ := write_rel (rs := []) (ars := []) (vs := []) (avs := []) hp .nil .nil hob b2 h2
              refine .of (a := .i .i64 (.ofNat (Nat.min m dn))) (X' := X') ?_ w2 w3 (.i _ _)
              unfold aCopy; rw [hl]; simp only
              generalize hq : Nat.min m dn = q at *
              cases q with
              | zero => exact absurd rfl hk0
              | succ q => simp only [b1, w1]
            · cases e
          · cases e
    · rename_i t cs hxx
      rw [hxx] at hx
      split at e
      · rename_i hrd
        simp only [Option.some.injEq, Prod.mk.injEq] at e; obtain ⟨rfl, rfl⟩ := e
        refine .same hp (a := .i .i64 0) ?_ (.i _ _)
        unfold aCopy; rw [hl]
        rcases ls_rel hp hx hrd with ⟨_, _, hz⟩ | ⟨B, oA, ac, acs, rfl, _⟩
        · cases ax <;> first | rfl | (obtain ⟨h, _⟩ := hz; subst h; simp [Nat.min_def]) | cases hz
        · simp
      · cases e
    · cases e
end
end Go.Av
