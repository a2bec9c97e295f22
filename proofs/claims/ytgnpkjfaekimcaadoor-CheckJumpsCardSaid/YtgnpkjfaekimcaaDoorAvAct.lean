/- Operations that act: stores, maps. -/
import Derived.Test.YtgnpkjfaekimcaaDoorAvOps3
set_option linter.unusedVariables false
set_option linter.unusedSimpArgs false
set_option linter.unusedSectionVars false
namespace Go.Av

/-- What an operation that acts leaves. -/
structure Acted (P : Program) (m : Mp) (h : AHeap) (w : World) (v : AV) (h' : AHeap) (cv : Value) (w' : World) (m' : Mp) : Prop where
  vr : VR m' v cv
  hr : HR P m' h' w'
  grow : Grow m m' h.n h'.n w
  chg : Chg m w w'
  n : h.n ≤ h'.n
  lim : h'.lim = h.lim
  out : ∀ b, b < h.n → m b = none → h'.get b = h.get b
/-- An operation's run: a value, or nothing. -/
def Gives (P : Program) (ρ : Operand → Value) (o : Oper) (w : World) (cv : Value) (w' : World) : Prop :=
  (execOp ρ o).run P w = .ok (.value cv) w' ∨ ((execOp ρ o).run P w = .ok .skip w' ∧ cv = undef)
def ActRun (P : Program) (m : Mp) (h : AHeap) (w : World) (ρ : Operand → Value) (o : Oper) (v : AV) (h' : AHeap) : Prop :=
  ∃ cv w' m', Gives P ρ o w cv w' ∧ Acted P m h w v h' cv w' m'
theorem undef_VR {m : Mp} : VR m (.tup []) undef := .tup _ _ .nil

section
variable {P : Program} {m : Mp} {h h' : AHeap} {w : World} {v : AV} {rs vs : List AV} {vt : List Nat} {ds : List (Option Nat)} {ρ : Operand → Value}
variable {dst : Option Tmp} {ty : TypeId} {pos : String} {aft : Array Edge} {gd : Option (Nat × Bool)} {op : AOp}

theorem run_u {s : Sem Unit} {w' : World} (hr : s.run P w = .ok () w') : (do s; pure Next.skip : Sem Next).run P w = .ok .skip w' := by simp [hr]

theorem act_store {t : TypeId} {a x : Operand} (hc : cOp P vt ds (.store t a x) = some op) (he : aop op rs vs h = some (v, h')) (hh : HR P m h w) (hop : Ops P m vt ds rs vs ρ [a, x]) :
    ActRun P m h w ρ ⟨dst, .store t a x, ty, pos, aft, gd⟩ v h' := by
  simp only [cOp] at hc
  split at hc
  · rename_i aa av n h1 h2 h3
    injection hc with hc; subst hc
    have va := hop a (by simp) aa h1
    have vx := hop x (by simp) av h2
    simp only [aop] at he
    cases hst : storeAt h n (aa.ev rs vs) (av.ev rs vs) with
    | none => rw [hst] at he; cases he
    | some h1' =>
      rw [hst] at he; simp only [skip1, Option.some.injEq, Prod.mk.injEq] at he
      obtain ⟨rfl, rfl⟩ := he
      unfold storeAt at hst
      split at hst
      · rename_i b o hb
        split at hst
        · rename_i hlen
          have hlen := beq_iff.1 hlen
          rw [hb] at va; generalize hca : ρ a = ca at va
          cases va with | p _ _ q hq =>
          obtain ⟨c, prev, ez, c', hg, hlim, hok, hsp, hprev, hn, hl', hget⟩ := writeAt_spec hst
          have hcells := vx.cells' hok
          obtain ⟨w', hr, hh', hchg, hsz, hout⟩ := write_run (P := P) hst hh hq hcells
          refine ⟨undef, w', m, .inr ⟨?_, rfl⟩, undef_VR, hh', ?_, hchg, by rw [hn]; exact Nat.le_refl _, hl', fun x _ hx => hout x hx⟩
          · simp only [execOp, hca]
            refine run_u ?_
            have hvs : (ρ x).cells.size = n := by
              have := hcells.length
              simp only [len_] at hlen
              simp at this; omega
            simp only [Instr.storeAt, Instr.sureAddr, Sem.run_bind, Sem.run_pure, Result.andThen_ok, storeVar, run_sizeOf' h3, hvs]
            simpa using hr
          · rw [hn]; exact Grow.refl _ _ _
        · cases hst
      · cases hst
  · cases hc

/-! ### maps -/

theorem setObj_map {r cl : Nat} {entries : Array MapEntry} (hw : w.heap[r]? = some (.map entries cl)) (o : Obj) : (setObj r o).run P w = .ok () (setBlock w r o) := by
  simp [setObj, Sem.run, hw, setBlock]
theorem map_put {b : Nat} {q : BI} {es es' : List (AV × AV × Nat)} {cl cl' : Nat} {entries entries' : Array MapEntry} (hh : HR P m h w) (hq : m b = some q) (hg : h.get b = some (.map es cl))
    (hw : w.heap[q.blk]? = some (.map entries cl)) (he : MR m es' entries'.toList) :
    HR P m (h.put b (.map es' cl')) (setBlock w q.blk (.map entries' cl')) ∧ Chg m w (setBlock w q.blk (.map entries' cl')) := by
  have hqw := (hh.cr b q hq).2.1
  have howned : q.own = true := by
    obtain ⟨_, _, o, hg', hor⟩ := hh.cr b q hq
    rw [hg] at hg'; injection hg' with hg'; subst hg'
    cases hor with | map _ _ _ _ _ ho => exact ho
  refine ⟨⟨fun x qx hx => ?_, ?_, hh.glob, fun x qx ox hx hgx => ?_⟩, ⟨rfl, rfl, rfl, by rw [setBlock_size]; exact Nat.le_refl _, fun r hr hm => ?_⟩⟩
  · obtain ⟨h1, h2, ox, h3, h4⟩ := hh.cr x qx hx
    refine ⟨h1, by rw [setBlock_size]; exact h2, ?_⟩
    by_cases exb : x = b
    · subst exb
      rw [hq] at hx; injection hx with hx; subst hx
      exact ⟨_, by rw [AHeap.get_put, if_pos rfl], .map _ _ entries' (by rw [setBlock_get, if_pos ⟨rfl, hqw⟩]) he howned⟩
    · refine ⟨ox, by rw [AHeap.get_put, if_neg exb]; exact h3, ?_⟩
      by_cases hdead : ox = .dead
      · subst hdead; exact .dead
      · have hne : qx.blk ≠ q.blk := by
          intro hblk
          have := (hh.sep b x q qx _ ox hq hx (Ne.symm exb) hg h3 trivial hdead hblk.symm).1
          simp [AObj.prevs] at this
        exact h4.same (by rw [setBlock_get, if_neg (by intro hc; exact hne hc.1)])
  · intro x y qx qy ox oy hx hy hxy hgx hgy hown hlive hblk
    rw [AHeap.get_put] at hgx hgy
    by_cases exb : x = b
    · subst exb
      rw [if_pos rfl] at hgx; injection hgx with hgx; subst hgx
      rw [if_neg (Ne.symm hxy)] at hgy
      have := (hh.sep x y qx qy _ oy hx hy hxy hg hgy trivial hlive hblk).1
      simp [AObj.prevs] at this
    · rw [if_neg exb] at hgx
      by_cases eyb : y = b
      · subst eyb
        have := (hh.sep x y qx qy ox _ hx hy hxy hgx hg hown (by simp) hblk).2.1
        exact this.elim
      · rw [if_neg eyb] at hgy
        exact hh.sep x y qx qy ox oy hx hy hxy hgx hgy hown hlive hblk
  · rw [AHeap.get_put] at hgx
    by_cases exb : x = b
    · rw [if_pos exb] at hgx; injection hgx with hgx; subst hgx; intro p hp; simp [AObj.prevs] at hp
    · rw [if_neg exb] at hgx; exact hh.prev x qx ox hx hgx
  · rw [setBlock_get, if_neg]
    rintro ⟨rfl, _⟩
    exact hm b q hq howned rfl

theorem put_out {b : Nat} {q : BI} {o : AObj} (hq : m b = some q) {x : Nat} (hx : m x = none) : (h.put b o).get x = h.get x := by
  rw [AHeap.get_put, if_neg]
  rintro rfl
  rw [hq] at hx; cases hx
theorem leafEq_true {l : Nat} {a b : AV} (h : leafEq l a b = some true) : a = b := by
  unfold leafEq at h
  split at h
  · rename_i k x k' y
    split at h
    · rename_i hk; injection h with h
      have := (kEq_iff _ _).1 hk; subst this
      have := of_decide_eq_true h; subst this; rfl
    · cases h
  · injection h with h; rw [(seq8_iff _ _).1 h]
  · injection h with h; simp at h; rw [h]
  · cases h
theorem leavesEq_true : ∀ {ls : List Nat} {x y : List AV}, leavesEq ls x y = some true → x = y
  | [], x, y, h => by cases x <;> cases y <;> simp [leavesEq] at h ⊢
  | l :: ls, x, y, h => by
    cases x with
    | nil => cases y <;> simp [leavesEq] at h
    | cons a x =>
      cases y with
      | nil => simp [leavesEq] at h
      | cons b y =>
        simp only [leavesEq] at h
        split at h
        · rename_i hl; rw [leafEq_true hl, leavesEq_true h]
        · cases h
        · cases h
theorem keyEq_true {kk : KK} {a b : AV} (h : keyEq kk a b = some true) : a = b := by
  unfold keyEq at h
  split at h
  · exact leafEq_true h
  · split at h
    · rw [leavesEq_true h]
    · cases h
theorem leaf_bits {l n : Nat} {a b : AV} {r : Bool} {c c' : Value} (h : leafEq l a b = some r) (h1 : VR m a c) (h2 : VR m a c') : Instr.sameBits n c c' = true := by
  unfold leafEq at h
  split at h
  · cases h1; cases h2; cases n <;> simp [Instr.sameBits]
  · cases h1 with | s _ t1 e1 => cases h2 with | s _ t2 e2 =>
    have : t1 = t2 := by
      cases t1; cases t2
      simp at e1 e2
      congr 1
      exact Array.toList_inj.1 (e1.trans e2.symm)
    subst this
    cases n <;> (simp only [Instr.sameBits]; rw [beq_toListBytes]; simp)
  · cases h1; cases h2; cases n <;> simp [Instr.sameBits]
  · cases h
theorem leaves_bits {n : Nat} : ∀ {ls : List Nat} {x : List AV} {c c' : List Value}, leavesEq ls x x = some true → VRL m x c → VRL m x c' → (c.zip c').all (fun (a, b) => Instr.sameBits n a b) = true ∧ c.length = c'.length
  | [], x, c, c', h, h1, h2 => by
    cases x with
    | nil => cases h1; cases h2; simp
    | cons => simp [leavesEq] at h
  | l :: ls, x, c, c', h, h1, h2 => by
    cases x with
    | nil => simp [leavesEq] at h
    | cons a x =>
      cases h1 with | cons _ c1 _ r1 v1 w1 => cases h2 with | cons _ c2 _ r2 v2 w2 =>
      simp only [leavesEq] at h
      split at h
      · rename_i hl
        obtain ⟨e1, e2⟩ := leaves_bits h w1 w2
        exact ⟨by simp only [List.zip_cons_cons, List.all_cons, leaf_bits hl v1 v2, Bool.true_and]; exact e1, by simp [e2]⟩
      · cases h
      · cases h
theorem key_bits {kk : KK} {a : AV} {c c' : Value} (h : keyEq kk a a = some true) (h1 : VR m a c) (h2 : VR m a c') : Instr.sameBits 10000 c c' = true := by
  unfold keyEq at h
  split at h
  · exact leaf_bits h h1 h2
  · split at h
    · rename_i x y
      cases h1 with | agg _ c1 e1 => cases h2 with | agg _ c2 e2 =>
      obtain ⟨h3, h4⟩ := leaves_bits (n := 9999) h e1 e2
      show Instr.sameBits (9999 + 1) (.agg c1) (.agg c2) = true
      rw [Instr.sameBits]
      simp only [Array.length_toList] at h4
      simp only [h4, beq_self_eq_true, Bool.true_and]
      exact h3
    · cases h
theorem mfind_some {kk : KK} {k : AV} : ∀ {es : List (AV × AV × Nat)} {j0 j : Nat} {v : AV} {b : Nat}, mfind kk k es j0 = some (some (j, v, b)) → ∃ k', es[j - j0]? = some (k', v, b) ∧ keyEq kk k k' = some true ∧ j0 ≤ j
  | [], _, _, _, _, h => by simp [mfind] at h
  | (k', v', b') :: es, j0, j, v, b, h => by
    simp only [mfind] at h
    split at h
    · rename_i hk
      simp only [Option.some.injEq, Prod.mk.injEq] at h
      obtain ⟨rfl, rfl, rfl⟩ := h
      exact ⟨k', by simp, hk, Nat.le_refl _⟩
    · obtain ⟨k2, h1, h2, h3⟩ := mfind_some h
      refine ⟨k2, ?_, h2, by omega⟩
      have : j - j0 = (j - (j0 + 1)) + 1 := by omega
      rw [this, List.getElem?_cons_succ]; exact h1
    · cases h
theorem MR.get : ∀ {l : List (AV × AV × Nat)} {r : List MapEntry}, MR m l r → ∀ {j : Nat} {k v : AV} {b : Nat}, l[j]? = some (k, v, b) → ∃ e, r[j]? = some e ∧ VR m k e.key ∧ VR m v e.val ∧ e.born = b
  | _, _, .nil, _, _, _, _, h => by simp at h
  | _, _, .cons _ _ _ e _ _ hk hv hb hr, 0, _, _, _, h => by
    simp at h
    obtain ⟨rfl, rfl, rfl⟩ := h
    exact ⟨e, rfl, hk, hv, hb⟩
  | _, _, .cons _ _ _ _ _ _ hk hv hb hr, j + 1, _, _, _, h => by simpa using hr.get (by simpa using h)

/-- What the model does at a map that is there, key found, and not. -/
theorem map_here {kk : KK} {mv k : AV} {cm ck : Value} {b : Nat} {key : TypeId} (hkt : KeyType P key kk) (hok : okKey kk k = true) (hb : mv = .m b) (hh : HR P m h w) (vm : VR m mv cm) (vk : VR m k ck) {es : List (AV × AV × Nat)} {cl : Nat}
    (hg : h.get b = some (.map es cl)) : ∃ (q : BI) (entries : Array MapEntry), m b = some q ∧ cm = .map (some q.blk) ∧ w.heap[q.blk]? = some (.map entries cl) ∧ MR m es entries.toList ∧ (getObj q.blk).run P w = .ok (.map entries cl) w ∧
      (∀ em, (Instr.checkKey em 10000 key ck).run P w = .ok () w) ∧
      (∀ res, mfind kk k es 0 = some res → ∃ cres, (Instr.findKey key ck entries.toList).run P w = .ok cres w ∧ Found m entries.toList 0 res cres) := by
  subst hb
  cases vm with | m _ q hq =>
  obtain ⟨_, _, o, hg', hor⟩ := hh.cr b q hq
  rw [hg] at hg'; injection hg' with hg'; subst hg'
  cases hor with | map _ _ entries hw he =>
  exact ⟨q, entries, hq, rfl, hw, he, by simp [getObj, Sem.run, hw], fun em => checkKey_run em hkt hok vk, fun res hf => findKey_run hkt vk he hf⟩

theorem act_mapUpdate {t key elem : TypeId} {mm k x : Operand} {kk : KK} {am ak ax : AO} (hu : P.underlying t = some (.map key elem)) (hkt : KeyType P key kk) (he : aop (.mupd kk am ak ax) rs vs h = some (v, h')) (hh : HR P m h w)
    (vm : VR m (am.ev rs vs) (ρ mm)) (vk : VR m (ak.ev rs vs) (ρ k)) (vx : VR m (ax.ev rs vs) (ρ x)) :
    ∃ w', (Instr.mapUpdate t (ρ mm) (ρ k) (ρ x)).run P w = .ok () w' ∧ v = .tup [] ∧ HR P m h' w' ∧ Chg m w w' ∧ h'.n = h.n ∧ h'.lim = h.lim ∧ ∀ x, m x = none → h'.get x = h.get x := by
  simp only [aop] at he
  cases hst : aMupd h kk (am.ev rs vs) (ak.ev rs vs) (ax.ev rs vs) with
  | none => rw [hst] at he; cases he
  | some h1 =>
    rw [hst] at he; simp only [skip1, Option.some.injEq, Prod.mk.injEq] at he
    obtain ⟨rfl, rfl⟩ := he
    unfold aMupd at hst
    split at hst
    · rename_i b hok hb
      split at hst
      · rename_i es cl hg hlim
        obtain ⟨q, entries, hq, hcm, hw, hmr, hget, hck, hfind⟩ := map_here hkt hok hb hh vm vk hg
        split at hst
        · rename_i j v' bn hf
          injection hst with hst; subst hst
          obtain ⟨cres, hfr, hfd⟩ := hfind _ hf
          cases cres with
          | none => exact hfd.elim
          | some y =>
            obtain ⟨i, cv⟩ := y
            obtain ⟨rfl, _, hv', e, hge, hev, hbn⟩ := hfd
            obtain ⟨k', hk1, hk2, _⟩ := mfind_some hf
            have hkk := keyEq_true hk2; subst hkk
            obtain ⟨e2, he2, hke, _, _⟩ := hmr.get hk1
            have hee : e2 = e := by rw [hge] at he2; injection he2 with he2; exact he2.symm
            subst hee
            have hk1' : es[i]? = some (ak.ev rs vs, v', bn) := by simpa using hk1
            have hgi : entries[i]? = some e2 := by simpa using hge
            have hbits : Instr.sameBits 10000 e2.key (ρ k) = true := key_bits hk2 hke vk
            have hmr' : MR m (mset es i (ax.ev rs vs)) (entries.modify i fun e => { e with key := ρ k, val := ρ x }).toList := by
              rw [Array.toList_modify]
              refine hmr.set i _ _ fun k0 v0 b0 e0 hl0 hk0 hb0 hg0 => ?_
              rw [hk1'] at hl0; injection hl0 with hl0
              obtain ⟨rfl, _⟩ := Prod.mk.inj hl0
              exact ⟨vk, vx, hb0⟩
            obtain ⟨hh', hchg⟩ := map_put (cl' := cl) hh hq hg hw hmr'
            refine ⟨_, ?_, rfl, hh', hchg, rfl, rfl, fun x hx => put_out hq hx⟩
            simp only [Instr.mapUpdate, hcm, Sem.run_bind, run_und hu, Result.andThen_ok, hget, hck, hfr, hgi, Option.map_some, Option.getD_some, Instr.keyThatStays, hbits, if_true, Sem.run_pure, setObj_map hw]
        · rename_i hf
          injection hst with hst; subst hst
          obtain ⟨cres, hfr, hfd⟩ := hfind _ hf
          cases cres with
          | some y => exact hfd.elim
          | none =>
            have hmr' : MR m (es ++ [(ak.ev rs vs, ax.ev rs vs, cl)]) (entries.push { key := ρ k, val := ρ x, born := cl }).toList := by
              rw [Array.toList_push]
              exact hmr.append (.cons _ _ _ _ _ _ vk vx rfl .nil)
            obtain ⟨hh', hchg⟩ := map_put (cl' := cl + 1) hh hq hg hw hmr'
            refine ⟨_, ?_, rfl, hh', hchg, rfl, rfl, fun x hx => put_out hq hx⟩
            simp only [Instr.mapUpdate, hcm, Sem.run_bind, run_und hu, Result.andThen_ok, hget, hck, hfr, setObj_map hw]
        · cases hst
      · cases hst
    · cases hst

theorem act_mapEntry {t key elem : TypeId} {mm k : Operand} {kk : KK} {am ak : AO} {z : AV} (hu : P.underlying t = some (.map key elem)) (hkt : KeyType P key kk) (hz : zeroOf P elem = some z) (he : aop (.ment kk z am ak) rs vs h = some (v, h'))
    (hh : HR P m h w) (vm : VR m (am.ev rs vs) (ρ mm)) (vk : VR m (ak.ev rs vs) (ρ k)) :
    ∃ cv w', (Instr.mapEntry t (ρ mm) (ρ k)).run P w = .ok cv w' ∧ VR m v cv ∧ HR P m h' w' ∧ Chg m w w' ∧ h'.n = h.n ∧ h'.lim = h.lim ∧ ∀ x, m x = none → h'.get x = h.get x := by
  simp only [aop] at he
  unfold aMent at he
  split at he
  · rename_i b hok hb
    split at he
    · rename_i es cl hg hlim
      obtain ⟨q, entries, hq, hcm, hw, hmr, hget, hck, hfind⟩ := map_here hkt hok hb hh vm vk hg
      split at he
      · rename_i j v' bn hf
        simp only [Option.some.injEq, Prod.mk.injEq] at he
        obtain ⟨rfl, rfl⟩ := he
        obtain ⟨cres, hfr, hfd⟩ := hfind _ hf
        cases cres with
        | none => exact hfd.elim
        | some y =>
          obtain ⟨i, cv⟩ := y
          obtain ⟨rfl, _, hv', e, hge, hev, hbn⟩ := hfd
          obtain ⟨k', hk1, hk2, _⟩ := mfind_some hf
          have hkk := keyEq_true hk2; subst hkk
          obtain ⟨e2, he2, hke, _, _⟩ := hmr.get hk1
          have hee : e2 = e := by rw [hge] at he2; injection he2 with he2; exact he2.symm
          subst hee
          have hk1' : es[i]? = some (ak.ev rs vs, v', bn) := by simpa using hk1
          have hgi : entries[i]? = some e2 := by simpa using hge
          have hbits : Instr.sameBits 10000 e2.key (ρ k) = true := key_bits hk2 hke vk
          have hmr' : MR m es (entries.modify i fun e => { e with key := ρ k }).toList := by
            have hm := hmr.set i v' (fun e => { e with key := ρ k }) (fun k0 v0 b0 e0 hl0 hk0 hb0 hg0 => by
              rw [hk1'] at hl0; injection hl0 with hl0
              obtain ⟨rfl, _⟩ := Prod.mk.inj hl0
              have : e0 = e2 := by
                have hg1 : entries[i]? = some e0 := by simpa using hg0
                rw [hgi] at hg1; injection hg1 with hg1; exact hg1.symm
              subst this
              refine ⟨vk, ?_, hb0⟩
              show VR m v' e0.val
              rw [hev]; exact hv')
            have hms : mset es i v' = es := mset_self hk1'
            rw [hms] at hm
            rw [Array.toList_modify]; exact hm
          obtain ⟨hh', hchg⟩ := map_put (es' := es) (cl' := cl) hh hq hg hw hmr'
          have hsame : HR P m h (setBlock w q.blk (.map (entries.modify i fun e => { e with key := ρ k }) cl)) := by
            refine ⟨fun x qx hx => ?_, hh.sep, hh.glob, hh.prev⟩
            obtain ⟨h1, h2, ox, h3, h4⟩ := hh'.cr x qx hx
            refine ⟨h1, h2, ox, ?_, h4⟩
            rw [AHeap.get_put] at h3
            by_cases exb : x = b
            · subst exb; rw [if_pos rfl] at h3; rw [hg, h3]
            · rw [if_neg exb] at h3; exact h3
          refine ⟨.tuple #[cv, goInt bn], _, ?_, .tup _ _ (.cons _ _ _ _ hv' (.cons _ _ _ _ (.i _ _) .nil)), hsame, hchg, rfl, rfl, fun _ _ => rfl⟩
          simp only [Instr.mapEntry, hcm, Sem.run_bind, run_und hu, Result.andThen_ok, hget, hck, hfr, hgi, Option.map_some, Option.getD_some, Instr.keyThatStays, hbits, if_true, Sem.run_pure, setObj_map hw, hbn]
      · rename_i hf
        simp only [Option.some.injEq, Prod.mk.injEq] at he
        obtain ⟨rfl, rfl⟩ := he
        obtain ⟨cres, hfr, hfd⟩ := hfind _ hf
        cases cres with
        | some y => exact hfd.elim
        | none =>
          obtain ⟨zv, hzr, hzv, _⟩ := zeroOf_run (m := m) (w := w) hz
          have hmr' : MR m (es ++ [(ak.ev rs vs, z, cl)]) (entries.push { key := ρ k, val := zv, born := cl }).toList := by
            rw [Array.toList_push]
            exact hmr.append (.cons _ _ _ _ _ _ vk hzv rfl .nil)
          obtain ⟨hh', hchg⟩ := map_put (cl' := cl + 1) hh hq hg hw hmr'
          refine ⟨.tuple #[zv, goInt cl], _, ?_, .tup _ _ (.cons _ _ _ _ hzv (.cons _ _ _ _ (.i _ _) .nil)), hh', hchg, rfl, rfl, fun x hx => put_out hq hx⟩
          simp only [Instr.mapEntry, hcm, Sem.run_bind, run_und hu, Result.andThen_ok, hget, hck, hfr, hzr, setObj_map hw, Sem.run_pure]
      · cases he
    · cases he
  · cases he
where
  mset_self {es : List (AV × AV × Nat)} {i : Nat} {k v : AV} {b : Nat} (h : es[i]? = some (k, v, b)) : mset es i v = es := by
    induction es generalizing i with
    | nil => rfl
    | cons e es ih =>
      cases i with
      | zero => simp at h; subst h; rfl
      | succ i => obtain ⟨k0, v0, b0⟩ := e; simp only [mset]; rw [ih (by simpa using h)]

theorem mborn_run : ∀ {es : List (AV × AV × Nat)} {entries : List MapEntry} {s j0 j : Nat}, MR m es entries → mborn es s j0 = some j → j0 ≤ j ∧ entries.findIdx? (fun e => (e.born : Int) == (s : Int)) = some (j - j0)
  | _, _, _, _, _, .nil, h => by simp [mborn] at h
  | _, _, s, j0, j, .cons k v b e l r hk hv hb hr, h => by
    simp only [mborn] at h
    split at h
    · rename_i hbs
      injection h with h; subst h
      have := beq_iff.1 hbs; subst this
      refine ⟨Nat.le_refl _, ?_⟩
      simp [List.findIdx?_cons, hb]
    · rename_i hbs
      have hne : b ≠ s := by intro e; rw [beq_iff.2 e] at hbs; cases hbs
      obtain ⟨h1, h2⟩ := mborn_run hr h
      refine ⟨by omega, ?_⟩
      have hc : ((e.born : Int) == (s : Int)) = false := by rw [hb]; simp; omega
      rw [List.findIdx?_cons, hc, h2]
      simp; omega

theorem act_entryStore {t : TypeId} {mm s x : Operand} {am as ax : AO} (he : aop (.estore am as ax) rs vs h = some (v, h')) (hh : HR P m h w)
    (vm : VR m (am.ev rs vs) (ρ mm)) (vs' : VR m (as.ev rs vs) (ρ s)) (vx : VR m (ax.ev rs vs) (ρ x)) :
    ∃ w', (Instr.entryStore t (ρ mm) (ρ s) (ρ x)).run P w = .ok () w' ∧ v = .tup [] ∧ HR P m h' w' ∧ Chg m w w' ∧ h'.n = h.n ∧ h'.lim = h.lim ∧ ∀ x, m x = none → h'.get x = h.get x := by
  simp only [aop] at he
  cases hst : aEstore h (am.ev rs vs) (as.ev rs vs) (ax.ev rs vs) with
  | none => rw [hst] at he; cases he
  | some h1 =>
    rw [hst] at he; simp only [skip1, Option.some.injEq, Prod.mk.injEq] at he
    obtain ⟨rfl, rfl⟩ := he
    unfold aEstore at hst
    split at hst
    · rename_i b k n hb hs
      split at hst
      · rename_i es cl hg hlim
        split at hst
        · rename_i j hj
          injection hst with hst; subst hst
          rw [hb] at vm; generalize hcm : ρ mm = cm at vm
          rw [hs] at vs'; generalize hcs : ρ s = cs at vs'
          cases vm with | m _ q hq =>
          cases vs'
          obtain ⟨_, _, o, hg', hor⟩ := hh.cr b q hq
          rw [hg] at hg'; injection hg' with hg'; subst hg'
          cases hor with | map _ _ entries hw hmr =>
          have hget : (getObj q.blk).run P w = .ok (.map entries cl) w := by simp [getObj, Sem.run, hw]
          obtain ⟨_, hidx⟩ := mborn_run hmr hj
          have hidx : entries.findIdx? (fun e => (e.born : Int) == (n : Int)) = some j := by
            obtain ⟨el⟩ := entries
            rw [List.findIdx?_toArray]; simpa using hidx
          have hmr' : MR m (mset es j (ax.ev rs vs)) (entries.modify j fun e => { e with val := ρ x }).toList := by
            rw [Array.toList_modify]
            exact hmr.set j _ _ fun k0 v0 b0 e0 hl0 hk0 hb0 hg0 => ⟨hk0, vx, hb0⟩
          obtain ⟨hh', hchg⟩ := map_put (cl' := cl) hh hq hg hw hmr'
          refine ⟨_, ?_, rfl, hh', hchg, rfl, rfl, fun x hx => put_out hq hx⟩
          simp only [Instr.entryStore, Sem.run_bind, Sem.run_pure, Result.andThen_ok, hget, asInt, asIntOf]
          have hidx' : entries.findIdx? (fun e => (e.born : Int) == Int.ofNat n) = some j := hidx
          rw [hidx']
          exact setObj_map hw _
        · cases hst
      · cases hst
    · cases hst

theorem act_delete {t key elem : TypeId} {kk : KK} {am ak : AO} {cm ck : Value} (hu : P.underlying t = some (.map key elem)) (hkt : KeyType P key kk) (he : aop (.del kk am ak) rs vs h = some (v, h')) (hh : HR P m h w)
    (vm : VR m (am.ev rs vs) cm) (vk : VR m (ak.ev rs vs) ck) (at_ : Array TypeId) (hat : at_[0]? = some t) (args : Array Value) (h0 : args[0]? = some cm) (h1 : args[1]? = some ck) :
    ∃ w', (Builtin.delete_ at_ ty args).run P w = .ok (.tuple #[]) w' ∧ v = .tup [] ∧ HR P m h' w' ∧ Chg m w w' ∧ h'.n = h.n ∧ h'.lim = h.lim ∧ ∀ x, m x = none → h'.get x = h.get x := by
  simp only [aop] at he
  cases hst : aDel h kk (am.ev rs vs) (ak.ev rs vs) with
  | none => rw [hst] at he; cases he
  | some h2 =>
    rw [hst] at he; simp only [Option.some.injEq, Prod.mk.injEq] at he
    obtain ⟨rfl, rfl⟩ := he
    unfold aDel at hst
    split at hst
    · rename_i hok hb
      injection hst with hst; subst hst
      rw [hb] at vm; cases vm
      refine ⟨w, ?_, rfl, hh, Chg.refl _ _, rfl, rfl, fun _ _ => rfl⟩
      simp only [Builtin.delete_, hat, h0, h1, Sem.run_bind, run_und hu, Result.andThen_ok, checkKey_run _ hkt hok vk, Sem.run_pure]
    · rename_i b hok hb
      split at hst
      · rename_i es cl hg hlim
        obtain ⟨q, entries, hq, hcm, hw, hmr, hget, hck, hfind⟩ := map_here hkt hok hb hh vm vk hg
        split at hst
        · rename_i j v' bn hf
          injection hst with hst; subst hst
          obtain ⟨cres, hfr, hfd⟩ := hfind _ hf
          cases cres with
          | none => exact hfd.elim
          | some y =>
            obtain ⟨i, cv⟩ := y
            obtain ⟨rfl, _, hv', e, hge, hev, hbn⟩ := hfd
            have hmr' : MR m (mdel es i) (entries.eraseIdxIfInBounds i).toList := by
              have hlt : i < entries.size := by
                have : entries.toList[i]? = some e := by simpa using hge
                rcases Nat.lt_or_ge i entries.size with h' | h'
                · exact h'
                · rw [List.getElem?_eq_none (by simpa using h')] at this; cases this
              have he2 : (entries.eraseIdxIfInBounds i).toList = entries.toList.eraseIdx i := by simp [Array.eraseIdxIfInBounds, hlt]
              rw [he2]; exact hmr.del i
            obtain ⟨hh', hchg⟩ := map_put (cl' := cl) hh hq hg hw hmr'
            refine ⟨_, ?_, rfl, hh', hchg, rfl, rfl, fun x hx => put_out hq hx⟩
            subst hcm
            simp only [Builtin.delete_, hat, h0, h1, Sem.run_bind, run_und hu, Result.andThen_ok, hget, hck, hfr, setObj_map hw, Sem.run_pure]
        · rename_i hf
          injection hst with hst; subst hst
          obtain ⟨cres, hfr, hfd⟩ := hfind _ hf
          cases cres with
          | some y => exact hfd.elim
          | none =>
            obtain ⟨hh', hchg⟩ := map_put (es' := es) (cl' := cl) hh hq hg hw hmr
            have hsame : HR P m h (setBlock w q.blk (.map entries cl)) := by
              refine ⟨fun x qx hx => ?_, hh.sep, hh.glob, hh.prev⟩
              obtain ⟨h1, h2, ox, h3, h4⟩ := hh'.cr x qx hx
              refine ⟨h1, h2, ox, ?_, h4⟩
              rw [AHeap.get_put] at h3
              by_cases exb : x = b
              · subst exb; rw [if_pos rfl] at h3; rw [hg, h3]
              · rw [if_neg exb] at h3; exact h3
            refine ⟨_, ?_, rfl, hsame, hchg, rfl, rfl, fun _ _ => rfl⟩
            subst hcm
            simp only [Builtin.delete_, hat, h0, h1, Sem.run_bind, run_und hu, Result.andThen_ok, hget, hck, hfr, setObj_map hw, Sem.run_pure]
        · cases hst
      · cases hst
    · cases hst
end
end Go.Av
