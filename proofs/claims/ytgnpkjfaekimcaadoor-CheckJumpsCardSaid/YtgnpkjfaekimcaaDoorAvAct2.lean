/- Operations that act: all but calls. -/
import Derived.Test.YtgnpkjfaekimcaaDoorAvApp
set_option linter.unusedVariables false
set_option linter.unusedSimpArgs false
set_option linter.unusedSectionVars false
namespace Go.Av
section
variable {P : Program} {m : Mp} {h h' : AHeap} {w : World} {v : AV}

theorem append_head {at_ : Array TypeId} {ty : TypeId} {args : Array Value} {t u e : TypeId} {i : TypeInfo} {d : TypeDesc} {base : Option Addr} {sLen sCap n z : Nat} {cx : Value} (hat0 : at_[0]? = some t) (hat1 : at_[1]? = some u)
    (ha0 : args[0]? = some (.slice base sLen sCap)) (ha1 : args[1]? = some cx) (hu : P.underlying t = some (.slice e)) (hd : P.underlying u = some d) (hni : ∀ k, d ≠ .int k) (hi : P.info? e = some i) (hz : i.size = z + 1)
    (hn : (Builtin.lenOf cx).run P w = .ok n w) (hbig : big (sLen + n) i.bytes = false ∨ sLen + n ≤ sCap) :
    (Builtin.append_ at_ ty args).run P w = if sLen + n ≤ sCap then (tailRoom (z + 1) sLen (sLen + n) sCap base (Builtin.firstCells (z + 1) n cx)).run P w
      else (tailGrow P e (z + 1) sLen (sLen + n) sCap (.slice base sLen sCap) (Builtin.firstCells (z + 1) n cx)).run P w := by
  have hsz : szOf P e = some (z + 1) := by simp [szOf, hi, hz]
  have hzer : (do pure ((← underlying u) matches .int _) : Sem Bool).run P w = .ok false w := by
    simp only [Sem.run_bind, run_und hd, Result.andThen_ok]
    cases d <;> first | rfl | exact (hni _ rfl).elim
  have hbytes : P.bytesOf e = i.bytes := by simp [Program.bytesOf, hi]
  unfold Builtin.append_
  simp only [hat0, hat1, ha0, ha1]
  simp only [Sem.run_bind, run_und hu, Result.andThen_ok, run_sizeOf' hsz]
  have hzer' := hzer
  simp only [Sem.run_bind, run_und hd, Result.andThen_ok] at hzer'
  simp only [run_und hd, Result.andThen_ok, hzer', Bool.false_eq_true, if_false, Bool.not_false, if_true]
  simp only [Sem.run_bind, hn, Result.andThen_ok]
  by_cases hroom : sLen + n ≤ sCap
  · simp only [if_pos hroom, tailRoom]
    cases base <;> rfl
  · simp only [if_neg hroom, tailGrow]
    have hbig := hbig.resolve_right hroom
    have h1 := big_int hbig
    have h2 := big_cap hbig (Nat.lt_of_not_le hroom)
    have hti : (typeInfo e).run P w = .ok i w := by simp [typeInfo, hi]
    simp only [Sem.run_bind, hti, Result.andThen_ok, h1, false_and, if_false, h2, hbytes]
    have hti2 : ∀ w' : World, (typeInfo e).run P w' = .ok i w' := fun w' => by simp [typeInfo, hi]
    simp only [run_choose, hti2, Sem.run_bind]
    rfl
theorem appendZ_head {at_ : Array TypeId} {ty : TypeId} {args : Array Value} {t u e : TypeId} {i : TypeInfo} {ik : IntKind} {base : Option Addr} {sLen sCap n z : Nat} (hat0 : at_[0]? = some t) (hat1 : at_[1]? = some u)
    (ha0 : args[0]? = some (.slice base sLen sCap)) (ha1 : args[1]? = some (.int .i64 n)) (hu : P.underlying t = some (.slice e)) (hd : P.underlying u = some (.int ik)) (hi : P.info? e = some i) (hz : i.size = z + 1)
    (hbn : big n i.bytes = false) (hbig : big (sLen + n) i.bytes = false ∨ sLen + n ≤ sCap) (new_ : Sem (Array Value)) (hnew : new_ = (if n * (z + 1) = 0 then pure #[] else do pure (Builtin.zeroCells (← zeroValue e).cells n))) :
    (Builtin.append_ at_ ty args).run P w = if sLen + n ≤ sCap then (tailRoom (z + 1) sLen (sLen + n) sCap base new_).run P w
      else (tailGrow P e (z + 1) sLen (sLen + n) sCap (.slice base sLen sCap) new_).run P w := by
  have hsz : szOf P e = some (z + 1) := by simp [szOf, hi, hz]
  have hbytes : P.bytesOf e = i.bytes := by simp [Program.bytesOf, hi]
  have h0 := big_false hbn
  have hn1 : n < 9223372036854775808 := by
    have : (2 * n + 2000) * 1 ≤ (2 * n + 2000) * (i.bytes + 1) := Nat.mul_le_mul (Nat.le_refl _) (by omega)
    omega
  have hwrap : IntKind.i64.wrap (n : Int) = n := wrap_nat_lt .i64 n hn1
  have hnb : ¬ ((n : Int) * (i.bytes : Int) > 2 ^ 48) := by
    have h3 : n * i.bytes ≤ (2 * n + 2000) * (i.bytes + 1) := Nat.mul_le_mul (by omega) (by omega)
    have : ((n : Int) * (i.bytes : Int)) = ((n * i.bytes : Nat) : Int) := by simp
    rw [this]; omega
  have hti2 : ∀ w' : World, (typeInfo e).run P w' = .ok i w' := fun w' => by simp [typeInfo, hi]
  unfold Builtin.append_
  simp only [hat0, hat1, ha0, ha1]
  simp only [Sem.run_bind, run_und hu, Result.andThen_ok, run_sizeOf' hsz, run_und hd, Sem.run_pure, if_true, asInt, asIntOf, hwrap]
  rw [if_neg (by omega)]
  simp only [Sem.run_bind, hti2, Result.andThen_ok]
  rw [if_neg hnb]
  simp only [Sem.run_pure, Result.andThen_ok, Int.toNat_natCast, Bool.not_true, Bool.false_eq_true, if_false]
  simp only [Sem.run_bind, Sem.run_pure, Result.andThen_ok]
  subst hnew
  by_cases hroom : sLen + n ≤ sCap
  · simp only [if_pos hroom, tailRoom]
    cases base <;> rfl
  · simp only [if_neg hroom, tailGrow]
    have hbig := hbig.resolve_right hroom
    have h1 := big_int hbig
    have h2 := big_cap hbig (Nat.lt_of_not_le hroom)
    simp only [Sem.run_bind, hti2, Result.andThen_ok, h1, false_and, if_false, h2, hbytes]

/-- The core: new elements behind a slice, whichever way. -/
theorem appendNew_run {e : TypeId} {i : TypeInfo} {z n sLen : Nat} {s : AV} {cs : Value} {new : List AV} {cn : List Value} {new_ : Sem (Array Value)} {zv : AV} (he : appendNew h (z + 1) i.bytes s n new = some (v, h')) (hh : HR P m h w)
    (hz : zeroOf P e = some zv) (hzl : zv.cellsOf.length = z + 1) (hs : VR m s cs) (hsl : lenOf s = some sLen) (hnew : ∀ w' : World, w'.heap = w.heap → (new_).run P w' = .ok cn.toArray w')
    (hn : VRL m new cn) (hnl : cn.length = n * (z + 1)) (hpos : 0 < n) :
    ∃ base sCap, cs = .slice base sLen sCap ∧
      ∃ cv w' m', ((big (sLen + n) i.bytes = false ∨ sLen + n ≤ sCap) ∧ (if sLen + n ≤ sCap then (tailRoom (z + 1) sLen (sLen + n) sCap base new_).run P w else (tailGrow P e (z + 1) sLen (sLen + n) sCap cs new_).run P w) = .ok cv w') ∧ Acted P m h w v h' cv w' m' := by
  unfold appendNew at he
  split at he
  · cases he
  · rename_i hok
    split at he
    · -- nil
      split at he
      · cases he
      · rename_i hbig
        simp only [Option.some.injEq, Prod.mk.injEq] at he
        obtain ⟨rfl, rfl⟩ := he
        simp only [lenOf, Option.some.injEq] at hsl; subst hsl
        have hs' := hs
        cases hs
        obtain ⟨cv, w', m', hr, hact⟩ := grow_run (P := P) (sCap := 0) (old := []) hh rfl hz hzl hs' rfl rfl hnew hn hnl
        refine ⟨none, 0, rfl, cv, w', m', ⟨.inl (by simpa using hbig), ?_⟩, ?_⟩
        · rw [if_neg (by omega)]; exact hr
        · simpa using hact
    · -- a known capacity
      rename_i b o sn c
      simp only [lenOf, Option.some.injEq] at hsl; subst hsl
      split at he
      · rename_i hroom
        have hroom := ble_iff.1 hroom
        split at he
        · rename_i h1 hw
          simp only [Option.some.injEq, Prod.mk.injEq] at he
          obtain ⟨rfl, rfl⟩ := he
          obtain ⟨base, cv, w', hcs, hle, hr, hact⟩ := room_run (P := P) (sCap := c) (n := n) hh hs hw (fun q hq => ⟨hroom, rfl⟩) (hnew w rfl) hn hpos
          exact ⟨base, c, hcs, cv, w', m, ⟨.inr hle, by rw [if_pos hle]; exact hr⟩, hact⟩
        · cases he
      · rename_i hroom
        have hroom : ¬ sn + n ≤ c := fun hc => by rw [ble_iff.2 hc] at hroom; cases hroom
        split at he
        · rename_i old hbig hold
          simp only [Option.some.injEq, Prod.mk.injEq] at he
          obtain ⟨rfl, rfl⟩ := he
          obtain ⟨cv, w', m', hr, hact⟩ := grow_run (P := P) (sCap := c) hh rfl hz hzl hs rfl hold hnew hn hnl
          cases hs with | sl _ _ _ _ q off hq hnn ho =>
          exact ⟨_, c, rfl, cv, w', m', ⟨.inl hbig, by rw [if_neg hroom]; exact hr⟩, hact⟩
        · cases he
    · -- an unknown one
      rename_i b o sn ee
      simp only [lenOf, Option.some.injEq] at hsl; subst hsl
      split at he
      · rename_i cc prev ez' hg
        split at he
        · rename_i hez hoe
          have hez := beq_iff.1 hez
          have hoe := beq_iff.1 hoe
          subst hez
          split at he
          · rename_i hroom
            have hroom := ble_iff.1 hroom
            split at he
            · rename_i h1 hw
              simp only [Option.some.injEq, Prod.mk.injEq] at he
              obtain ⟨rfl, rfl⟩ := he
              have hcap : ∀ q, m b = some q → sn + n ≤ capOf q (.u ee) ∧ capOf q (.u ee) = capOf q (.u ee) := by
                intro q hq
                refine ⟨?_, rfl⟩
                obtain ⟨_, _, obj, hg', hor⟩ := hh.cr b q hq
                rw [hg] at hg'; injection hg' with hg'; subst hg'
                cases hor with | cells _ _ _ _ arr T fz hw2 hc hrw =>
                have hcl := (hrw rfl).2.2.1 (by omega)
                simp only [len_] at hroom
                have hm : (ee + (sn + n)) * (z + 1) ≤ q.cap * (z + 1) := by rw [Nat.add_mul]; omega
                have := Nat.le_of_mul_le_mul_right hm (by omega)
                simp only [capOf]; omega
              cases hmb : m b with
              | none => cases hs with | sl _ _ _ _ q off hq hnn ho => rw [hmb] at hq; cases hq
              | some q =>
                obtain ⟨base, cv, w', hcs, hle, hr, hact⟩ := room_run (P := P) (sCap := capOf q (.u ee)) (n := n) hh hs hw (fun q' hq' => by rw [hmb] at hq'; injection hq' with hq'; subst hq'; exact hcap q hmb) (hnew w rfl) hn hpos
                exact ⟨base, _, hcs, cv, w', m, ⟨.inr hle, by rw [if_pos hle]; exact hr⟩, hact⟩
            · cases he
          · split at he
            · rename_i old hfr hbig hold
              have hfr := beq_iff.1 hfr
              simp only [Option.some.injEq, Prod.mk.injEq] at he
              obtain ⟨rfl, rfl⟩ := he
              obtain ⟨base, sCap, hcs, h1, h2⟩ := front_run (P := P) hh rfl hz hzl hs hg hoe hfr hold hnew hn hnl (by simpa using hok) hpos
              refine ⟨base, sCap, hcs, ?_⟩
              by_cases hroom2 : sn + n ≤ sCap
              · obtain ⟨cv, w', m', hr, hact⟩ := h1 hroom2
                exact ⟨cv, w', m', ⟨.inr hroom2, by rw [if_pos hroom2]; exact hr⟩, hact⟩
              · obtain ⟨cv, w', m', hr, hact⟩ := h2 hroom2
                exact ⟨cv, w', m', ⟨.inl hbig, by rw [if_neg hroom2]; exact hr⟩, hact⟩
            · cases he
        · cases he
      · cases he
    · cases he

variable {rs vs : List AV} {vt : List Nat} {ds : List (Option Nat)} {ρ : Operand → Value}

theorem slice_parts {s : AV} {cs : Value} {k : Nat} (hs : VR m s cs) (h : s = .nils ∨ ∃ b o n c, s = .sl b o n c) (hl : lenOf s = some k) : ∃ base cap, cs = .slice base k cap ∧ k ≤ cap := by
  rcases h with rfl | ⟨b, o, n, c, rfl⟩
  · cases hs; simp only [lenOf, Option.some.injEq] at hl; subst hl; exact ⟨_, _, rfl, Nat.le_refl _⟩
  · cases hs with | sl _ _ _ _ q off hq hn ho =>
    simp only [lenOf, Option.some.injEq] at hl; subst hl; exact ⟨_, _, rfl, hn⟩

theorem act_append {at_ : Array TypeId} {ty : TypeId} {args : Array Value} {t u e : TypeId} {i : TypeInfo} {d : TypeDesc} {z : Nat} {s x zv : AV} {cs cx : Value} (hat0 : at_[0]? = some t) (hat1 : at_[1]? = some u)
    (ha0 : args[0]? = some cs) (ha1 : args[1]? = some cx) (hu : P.underlying t = some (.slice e)) (hd : P.underlying u = some d) (hni : ∀ k, d ≠ .int k) (hi : P.info? e = some i) (hz : i.size = z + 1)
    (hzv : zeroOf P e = some zv) (hzl : zv.cellsOf.length = z + 1) (hh : HR P m h w) (vs' : VR m s cs) (vx : VR m x cx) (he : aAppend h (z + 1) i.bytes s x = some (v, h')) :
    ∃ cv w' m', (Builtin.append_ at_ ty args).run P w = .ok cv w' ∧ Acted P m h w v h' cv w' m' := by
  unfold aAppend at he
  split at he
  · cases he
  · -- nothing is appended
    rename_i hl
    have hn := lenOf_run (P := P) (w := w) hl vx
    have hns : (s = .nils ∨ ∃ b o n c, s = .sl b o n c) ∧ v = s ∧ h' = h := by
      split at he
      · simp only [Option.some.injEq, Prod.mk.injEq] at he; exact ⟨.inl rfl, he.1.symm, he.2.symm⟩
      · simp only [Option.some.injEq, Prod.mk.injEq] at he; exact ⟨.inr ⟨_, _, _, _, rfl⟩, he.1.symm, he.2.symm⟩
      · cases he
    obtain ⟨hk, rfl, rfl⟩ := hns
    obtain ⟨k, hk2⟩ : ∃ k, lenOf v = some k := by rcases hk with rfl | ⟨b, o, n, c, rfl⟩ <;> exact ⟨_, rfl⟩
    obtain ⟨base, cap, rfl, hle⟩ := slice_parts vs' hk hk2
    have hfc : (Builtin.firstCells (z + 1) 0 cx).run P w = .ok #[] w := firstCells_zero hl vx
    refine ⟨.slice base k cap, w, m, ?_, vs', hh, Grow.refl _ _ _, Chg.refl _ _, Nat.le_refl _, rfl, fun _ _ _ => rfl⟩
    rw [append_head hat0 hat1 ha0 ha1 hu hd hni hi hz hn (.inr (by omega)), if_pos (by omega)]
    simp only [tailRoom, Sem.run_bind, hfc, Result.andThen_ok]
    cases base <;> simp [storeCells]
  · rename_i n hne hl
    split at he
    · cases he
    · rename_i new hnew
      have hn := lenOf_run (P := P) (w := w) hl vx
      have hpos : 0 < n := by rcases Nat.eq_zero_or_pos n with h0 | h0; exact (hne (by rw [h0] at hl; exact h0 ▸ rfl)).elim; exact h0
      obtain ⟨cn, hcn, hvn, hln⟩ := firstCells_run (P := P) hnew hh.cr vx hl (Nat.le_refl _)
      obtain ⟨k, hk2⟩ : ∃ k, lenOf s = some k := by
        unfold appendNew at he
        split at he
        · cases he
        · split at he
          · exact ⟨_, rfl⟩
          · exact ⟨_, rfl⟩
          · exact ⟨_, rfl⟩
          · cases he
      obtain ⟨base, sCap, hcs, cv, w', m', ⟨hbig, hr⟩, hact⟩ := appendNew_run (P := P) (e := e) he hh hzv hzl vs' hk2 hcn hvn hln hpos
      subst hcs
      exact ⟨cv, w', m', by rw [append_head hat0 hat1 ha0 ha1 hu hd hni hi hz hn hbig]; exact hr, hact⟩
where
  firstCells_zero {ez k : Nat} {x : AV} {cx : Value} (hl : lenOf x = some k) (vx : VR m x cx) : (Builtin.firstCells ez 0 cx).run P w = .ok #[] w := by
    unfold lenOf at hl
    split at hl
    · cases vx; simp [Builtin.firstCells]
    · cases vx; simp [Builtin.firstCells, loadCells, loadCellsFrom]
    · cases vx with | s _ tb etb =>
      simp only [Builtin.firstCells, Sem.run_pure]
      congr 1
      apply Array.ext'
      simp
    · cases hl

theorem act_appendZ {at_ : Array TypeId} {ty : TypeId} {args : Array Value} {t u e : TypeId} {i : TypeInfo} {ik : IntKind} {z : Nat} {s x zv : AV} {cs cx : Value} (hat0 : at_[0]? = some t) (hat1 : at_[1]? = some u)
    (ha0 : args[0]? = some cs) (ha1 : args[1]? = some cx) (hu : P.underlying t = some (.slice e)) (hd : P.underlying u = some (.int ik)) (hi : P.info? e = some i) (hz : i.size = z + 1)
    (hzv : zeroOf P e = some zv) (hzl : zv.cellsOf.length = z + 1) (hh : HR P m h w) (vs' : VR m s cs) (vx : VR m x cx) (he : aAppendZ h (z + 1) i.bytes zv.cellsOf s x = some (v, h')) :
    ∃ cv w' m', (Builtin.append_ at_ ty args).run P w = .ok cv w' ∧ Acted P m h w v h' cv w' m' := by
  unfold aAppendZ at he
  split at he
  · rename_i n
    cases vx
    split at he
    · -- nothing
      rename_i hn0 _
      have hns : (s = .nils ∨ ∃ b o n c, s = .sl b o n c) ∧ v = s ∧ h' = h := by
        split at he
        · simp only [Option.some.injEq, Prod.mk.injEq] at he; exact ⟨.inl rfl, he.1.symm, he.2.symm⟩
        · simp only [Option.some.injEq, Prod.mk.injEq] at he; exact ⟨.inr ⟨_, _, _, _, rfl⟩, he.1.symm, he.2.symm⟩
        · cases he
      obtain ⟨hk, rfl, rfl⟩ := hns
      obtain ⟨k, hk2⟩ : ∃ k, lenOf v = some k := by rcases hk with rfl | ⟨b, o, n, c, rfl⟩ <;> exact ⟨_, rfl⟩
      obtain ⟨base, cap, rfl, hle⟩ := slice_parts vs' hk hk2
      refine ⟨.slice base k cap, w, m, ?_, vs', hh, Grow.refl _ _ _, Chg.refl _ _, Nat.le_refl _, rfl, fun _ _ _ => rfl⟩
      -- by hand: of nought elements nothing is asked
      have hti2 : ∀ w' : World, (typeInfo e).run P w' = .ok i w' := fun w' => by simp [typeInfo, hi]
      have hsz' : szOf P e = some (z + 1) := by simp [szOf, hi, hz]
      have hwrap : IntKind.i64.wrap 0 = 0 := by decide
      unfold Builtin.append_
      simp only [hat0, hat1, ha0, ha1]
      simp only [Sem.run_bind, run_und hu, Result.andThen_ok, run_sizeOf' hsz', run_und hd, Sem.run_pure, if_true, asInt, asIntOf, Int.ofNat_eq_natCast, Int.natCast_zero, Int.cast_ofNat_Int, hwrap]
      simp only [Int.lt_irrefl, if_false, Sem.run_bind, hti2, Result.andThen_ok, Int.zero_mul]
      have h0 : ¬ ((0 : Int) > 2 ^ 48) := by decide
      simp only [h0, if_false, Sem.run_pure, Result.andThen_ok, Int.toNat_zero, Nat.add_zero, hle, if_true, Nat.zero_mul, Bool.not_true, Bool.false_eq_true, Sem.run_bind]
      cases base <;> simp [storeCells]
    · rename_i n _ _ hne hbn
      have hpos : 0 < n := by rcases Nat.eq_zero_or_pos n with h0 | h0; exact (hne h0).elim; exact h0
      obtain ⟨k, hk2⟩ : ∃ k, lenOf s = some k := by
        unfold appendNew at he
        split at he
        · cases he
        · split at he
          · exact ⟨_, rfl⟩
          · exact ⟨_, rfl⟩
          · exact ⟨_, rfl⟩
          · cases he
      obtain ⟨zz, hzr0, _, hzvr⟩ := zeroOf_run (P := P) (m := m) (w := w) hzv
      have hzz : ∀ w' : World, (zeroValue e).run P w' = .ok zz w' := by
        intro w'
        unfold zeroOf at hzv
        rw [hi] at hzv
        simp only at hzv
        cases hi0 : i.zero with
        | none => rw [hi0] at hzv; cases hzv
        | some z0 =>
          have h1 : ∀ w'' : World, (zeroValue e).run P w'' = .ok z0 w'' := fun w'' => by simp [zeroValue, typeInfo, hi, hi0]
          have h2 := h1 w
          have h3 : zz = z0 := (Result.ok.inj (hzr0.symm.trans h2)).1
          subst h3; exact h1 w'
      have hzs : zz.cells.size = z + 1 := by have := hzvr.length; simp at this; omega
      have hrep : VRL m (rep n zv.cellsOf) (Builtin.zeroCells zz.cells n).toList := by
        have := rep_VRL (n := n) hzvr hzl
        rw [← hzs] at this
        exact this
      have hnl : (Builtin.zeroCells zz.cells n).toList.length = n * (z + 1) := by simp [zeroCells_size, hzs]
      have hnew : ∀ w' : World, w'.heap = w.heap → ((if n * (z + 1) = 0 then pure #[] else do pure (Builtin.zeroCells (← zeroValue e).cells n)) : Sem (Array Value)).run P w' = .ok (Builtin.zeroCells zz.cells n).toList.toArray w' := by
        intro w' _
        rw [if_neg (by intro h0; rcases Nat.mul_eq_zero.1 h0 with h0 | h0 <;> omega)]
        simp [hzz w']
      obtain ⟨base, sCap, hcs, cv, w', m', ⟨hbig, hr⟩, hact⟩ := appendNew_run (P := P) (e := e) he hh hzv hzl vs' hk2 hnew hrep hnl hpos
      subst hcs
      exact ⟨cv, w', m', by rw [appendZ_head hat0 hat1 ha0 ha1 hu hd hi hz hbn hbig _ rfl]; exact hr, hact⟩
    · cases he
  · cases he

theorem act_copy {at_ : Array TypeId} {ty : TypeId} {args : Array Value} {t e : TypeId} {z : Nat} {d s : AV} {cd cs : Value} (hat0 : at_[0]? = some t)
    (ha0 : args[0]? = some cd) (ha1 : args[1]? = some cs) (hu : P.underlying t = some (.slice e)) (hsz : szOf P e = some (z + 1)) {dT sT : TypeId} (_ : dT = sT)
    (hh : HR P m h w) (vd : VR m d cd) (vs' : VR m s cs) (he : aCopy h (z + 1) d s = some (v, h')) :
    ∃ cv w' m', (Builtin.copy_ at_ ty args).run P w = .ok cv w' ∧ Acted P m h w v h' cv w' m' := by
  unfold aCopy at he
  split at he
  · cases he
  · rename_i k hk
    have hn := lenOf_run (P := P) (w := w) hk vs'
    split at he
    · simp only [Option.some.injEq, Prod.mk.injEq] at he
      obtain ⟨rfl, rfl⟩ := he
      cases vd
      have hfc : (Builtin.firstCells (z + 1) 0 cs).run P w = .ok #[] w := act_append.firstCells_zero hk vs'
      refine ⟨.int .i64 0, w, m, ?_, .i _ _, hh, Grow.refl _ _ _, Chg.refl _ _, Nat.le_refl _, rfl, fun _ _ _ => rfl⟩
      simp [Builtin.copy_, hat0, ha0, ha1, run_und hu, hn, run_sizeOf' hsz, hfc, goInt]
    · rename_i b o dn c
      cases vd with | sl _ _ _ _ q off hq hnn ho =>
      split at he
      · rename_i hmin
        simp only [Option.some.injEq, Prod.mk.injEq] at he
        obtain ⟨rfl, rfl⟩ := he
        have hfc : (Builtin.firstCells (z + 1) 0 cs).run P w = .ok #[] w := act_append.firstCells_zero hk vs'
        refine ⟨.int .i64 0, w, m, ?_, .i _ _, hh, Grow.refl _ _ _, Chg.refl _ _, Nat.le_refl _, rfl, fun _ _ _ => rfl⟩
        simp [Builtin.copy_, hat0, ha0, ha1, run_und hu, hn, run_sizeOf' hsz, hmin, hfc, goInt, storeCells]
      · rename_i kk hne
        split at he
        · rename_i cells hcells
          split at he
          · rename_i h1 hw
            simp only [Option.some.injEq, Prod.mk.injEq] at he
            obtain ⟨rfl, rfl⟩ := he
            have hle1 : Nat.min k dn ≤ k := Nat.min_le_left _ _
            have hle2 : Nat.min k dn ≤ dn := Nat.min_le_right _ _
            have hpos : 0 < Nat.min k dn := by rcases Nat.eq_zero_or_pos (Nat.min k dn) with h0 | h0; exact (hne h0).elim; exact h0
            obtain ⟨cc, hcc, hvc, hlc⟩ := firstCells_run (P := P) hcells hh.cr vs' hk hle1
            have hoff : off = ⟨q.blk, q.base + o, none⟩ := by
              rcases ho with ho | ho
              · exact ho
              · omega
            subst hoff
            obtain ⟨w', hr, hh', hchg, _, hout⟩ := write_run (P := P) hw hh hq hvc
            obtain ⟨c0, prev, ez0, c', hg, hlim, hok, hsp, hprev, hn', hl', hget⟩ := writeAt_spec hw
            refine ⟨.int .i64 (Nat.min k dn), w', m, ?_, .i _ _, hh', by rw [hn']; exact Grow.refl _ _ _, hchg, by rw [hn']; exact Nat.le_refl _, hl', fun x _ hx => hout x hx⟩
            simp [Builtin.copy_, hat0, ha0, ha1, run_und hu, hn, run_sizeOf' hsz, hcc w rfl, hr, goInt]
          · cases he
        · cases he
    · cases he

variable {dst : Option Tmp} {pos : String} {aft : Array Edge} {gd : Option (Nat × Bool)} {op : AOp}

/-- ALL OPERATIONS THAT ACT, but calls. -/
theorem act_run {o : Oper} (hc : cOp P vt ds o.op = some op) (ha : actsA op = true) (he : aop op rs vs h = some (v, h')) (hh : HR P m h w) (hop : Ops P m vt ds rs vs ρ o.op.operands.toList) :
    ActRun P m h w ρ o v h' := by
  obtain ⟨dst, g, ty, pos, aft, gd⟩ := o
  simp only at hc hop
  have hgrow : ∀ {h h' : AHeap}, h'.n = h.n → Grow m m h.n h'.n w := fun e => by rw [e]; exact Grow.refl _ _ _
  have hupd : ∀ {t : TypeId} {a k x : Operand}, (match cOperand P vt ds a, cOperand P vt ds k, cOperand P vt ds x, P.underlying t with
      | some m, some k, some v, some (.map key _) => match keyKind P key with
        | some kk => some (.mupd kk m k v)
        | none => none
      | _, _, _, _ => none : Option AOp) = some op → Ops P m vt ds rs vs ρ [a, k, x] → ∃ w', (Instr.mapUpdate t (ρ a) (ρ k) (ρ x)).run P w = .ok () w' ∧ v = .tup [] ∧ HR P m h' w' ∧ Chg m w w' ∧ h'.n = h.n ∧ h'.lim = h.lim ∧ ∀ x, m x = none → h'.get x = h.get x := by
    intro t a k x hc hop
    split at hc
    · rename_i am ak ax key el h1 h2 h3 hu
      split at hc
      · rename_i kk hk; injection hc with hc; subst hc
        exact act_mapUpdate hu hk he hh (hop a (by simp) am h1) (hop k (by simp) ak h2) (hop x (by simp) ax h3)
      · cases hc
    · cases hc
  cases g with
  | store t a x => exact act_store hc he hh (fun z hz => hop z (by simpa [Op.operands] using hz))
  | mapUpdate t a k x =>
    simp only [cOp] at hc
    obtain ⟨w', hr, rfl, hh', hchg, hn, hl, hout⟩ := hupd hc (fun z hz => hop z (by simpa [Op.operands] using hz))
    exact ⟨undef, w', m, .inr ⟨by simp only [execOp]; exact run_u hr, rfl⟩, undef_VR, hh', hgrow hn, hchg, by rw [hn]; exact Nat.le_refl _, hl, fun x _ hx => hout x hx⟩
  | insert t a k x =>
    simp only [cOp] at hc
    obtain ⟨w', hr, rfl, hh', hchg, hn, hl, hout⟩ := hupd hc (fun z hz => hop z (by simpa [Op.operands] using hz))
    exact ⟨undef, w', m, .inr ⟨by simp only [execOp]; exact run_u hr, rfl⟩, undef_VR, hh', hgrow hn, hchg, by rw [hn]; exact Nat.le_refl _, hl, fun x _ hx => hout x hx⟩
  | mapEntry t a k =>
    simp only [cOp] at hc
    split at hc
    · rename_i am ak key el h1 h2 hu
      split at hc
      · rename_i kk z hk hz; injection hc with hc; subst hc
        obtain ⟨cv, w', hr, hv, hh', hchg, hn, hl, hout⟩ := act_mapEntry hu hk hz he hh (hop a (by simp [Op.operands]) am h1) (hop k (by simp [Op.operands]) ak h2)
        exact ⟨cv, w', m, .inl (by simp only [execOp]; exact run_v hr), hv, hh', hgrow hn, hchg, by rw [hn]; exact Nat.le_refl _, hl, fun x _ hx => hout x hx⟩
      · cases hc
    · cases hc
  | entryStore t a s x =>
    simp only [cOp] at hc
    split at hc
    · rename_i am as ax h1 h2 h3
      injection hc with hc; subst hc
      obtain ⟨w', hr, rfl, hh', hchg, hn, hl, hout⟩ := act_entryStore (t := t) he hh (hop a (by simp [Op.operands]) am h1) (hop s (by simp [Op.operands]) as h2) (hop x (by simp [Op.operands]) ax h3)
      exact ⟨undef, w', m, .inr ⟨by simp only [execOp]; exact run_u hr, rfl⟩, undef_VR, hh', hgrow hn, hchg, by rw [hn]; exact Nat.le_refl _, hl, fun x _ hx => hout x hx⟩
    · cases hc
  | call c =>
    simp only [cOp] at hc
    unfold cCall at hc
    split at hc
    · cases hc
    · rename_i as has
      split at hc
      · split at hc
        · injection hc with hc; subst hc; simp [aop] at he
        · cases hc
      · cases hc
      · rename_i b hcal
        have hargs : VRL m (evs rs vs as) (c.args.map ρ).toList := by
          have := ops_list (rs := rs) (vs := vs) (m := m) (ρ := ρ) has (fun x hx => hop x (by simp [Op.operands, Call.operands, hcal] at hx ⊢; exact hx))
          simpa using this
        have hex : ∀ {cv : Value} {w' : World}, (builtin b c.argTypes ty (c.args.map fun | .const _ => true | _ => false) (c.args.map ρ)).run P w = .ok (.value cv) w' →
            (execOp ρ ⟨dst, .call c, ty, pos, aft, gd⟩).run P w = .ok (.value cv) w' := by
          intro cv w' hr
          simp only [execOp, resolve, hcal, Sem.run_bind, Sem.run_pure, Result.andThen_ok, invoke]
          exact hr
        have harg : ∀ {i : Nat} {x : AO}, as[i]? = some x → ∃ cx, (c.args.map ρ)[i]? = some cx ∧ VR m (x.ev rs vs) cx := by
          intro i x hx
          have : get? (evs rs vs as) i = some (x.ev rs vs) := by
            have : ∀ (l : List AO) (i : Nat), l[i]? = some x → get? (evs rs vs l) i = some (x.ev rs vs) := by
              intro l
              induction l with
              | nil => intro i h; simp at h
              | cons y l ih => intro i h; cases i with
                | zero => simp at h; subst h; rfl
                | succ i => simp only [evs, get?]; exact ih i (by simpa using h)
            exact this as i hx
          obtain ⟨cx, h1, h2⟩ := hargs.get this
          exact ⟨cx, by simpa using h1, h2⟩
        split at hc
        · split at hc
          · injection hc with hc; subst hc; cases ha
          · injection hc with hc; subst hc; cases ha
          · injection hc with hc; subst hc; cases ha
          · injection hc with hc; subst hc; cases ha
          · cases hc
        · split at hc
          · injection hc with hc; subst hc; cases ha
          · cases hc
        · -- append
          rename_i t u ts s x xs hts
          have hat0 : c.argTypes[0]? = some t := by rw [← Array.getElem?_toList, hts]; rfl
          have hat1 : c.argTypes[1]? = some u := by rw [← Array.getElem?_toList, hts]; rfl
          obtain ⟨cs, hcs, vs1⟩ := harg (i := 0) (x := s) rfl
          obtain ⟨cx, hcx, vx1⟩ := harg (i := 1) (x := x) rfl
          split at hc
          · rename_i e d hu hd
            split at hc
            · rename_i ik i hi
              split at hc
              · rename_i n zv hn hz
                split at hc
                · rename_i hzl
                  injection hc with hc; subst hc
                  simp only [aop] at he
                  obtain ⟨cv, w', m', hr, hact⟩ := act_appendZ (P := P) (ty := ty) hat0 hat1 hcs hcx hu hd hi hn hz hzl hh vs1 vx1 he
                  exact ⟨cv, w', m', .inl (hex (by simp only [builtin]; exact run_v hr)), hact⟩
                · cases hc
              · cases hc
            · rename_i i hni hi
              split at hc
              · rename_i n zv hn hz
                split at hc
                · rename_i hzl
                  injection hc with hc; subst hc
                  simp only [aop] at he
                  obtain ⟨cv, w', m', hr, hact⟩ := act_append (P := P) (ty := ty) hat0 hat1 hcs hcx hu hd (fun k hk => hni k hk) hi hn hz hzl hh vs1 vx1 he
                  exact ⟨cv, w', m', .inl (hex (by simp only [builtin]; exact run_v hr)), hact⟩
                · cases hc
              · cases hc
            · cases hc
          · cases hc
        · -- copy
          rename_i t ts d s xs hts
          have hat0 : c.argTypes[0]? = some t := by rw [← Array.getElem?_toList, hts]; rfl
          obtain ⟨cd, hcd, vd1⟩ := harg (i := 0) (x := d) rfl
          obtain ⟨cs, hcs, vs1⟩ := harg (i := 1) (x := s) rfl
          split at hc
          · rename_i e hu
            split at hc
            · rename_i n hn
              injection hc with hc; subst hc
              simp only [aop] at he
              obtain ⟨cv, w', m', hr, hact⟩ := act_copy (P := P) (ty := ty) hat0 hcd hcs hu hn (rfl : t = t) hh vd1 vs1 he
              exact ⟨cv, w', m', .inl (hex (by simp only [builtin]; exact run_v hr)), hact⟩
            · cases hc
          · cases hc
        · injection hc with hc; subst hc; cases ha
        · injection hc with hc; subst hc; cases ha
        · -- delete
          rename_i t ts mm k xs hts
          have hat0 : c.argTypes[0]? = some t := by rw [← Array.getElem?_toList, hts]; rfl
          obtain ⟨cm, hcm, vm1⟩ := harg (i := 0) (x := mm) rfl
          obtain ⟨ck, hck, vk1⟩ := harg (i := 1) (x := k) rfl
          split at hc
          · rename_i key el hu
            split at hc
            · rename_i kk hk
              injection hc with hc; subst hc
              obtain ⟨w', hr, rfl, hh', hchg, hn, hl, hout⟩ := act_delete (P := P) (ty := ty) hu hk he hh vm1 vk1 c.argTypes hat0 _ hcm hck
              exact ⟨.tuple #[], w', m, .inl (hex (by simp only [builtin]; exact run_v hr)), undef_VR, hh', hgrow hn, hchg, by rw [hn]; exact Nat.le_refl _, hl, fun x _ hx => hout x hx⟩
            · cases hc
          · cases hc
        · cases hc
  | move x => simp only [cOp] at hc; split at hc <;> first | (injection hc with hc; subst hc; cases ha) | cases hc
  | assign x => simp only [cOp] at hc; split at hc <;> first | (injection hc with hc; subst hc; cases ha) | cases hc
  | pick c a b => simp only [cOp] at hc; split at hc <;> first | (injection hc with hc; subst hc; cases ha) | cases hc
  | alloc t => simp only [cOp] at hc; split at hc <;> first | (injection hc with hc; subst hc; cases ha) | cases hc
  | box t x => simp only [cOp] at hc; split at hc <;> first | (injection hc with hc; subst hc; cases ha) | cases hc
  | build t ps => simp only [cOp] at hc; (repeat' split at hc) <;> first | (injection hc with hc; subst hc; cases ha) | cases hc
  | buildSlice t n ps => simp only [cOp] at hc; (repeat' split at hc) <;> first | (injection hc with hc; subst hc; cases ha) | cases hc
  | load t a => simp only [cOp] at hc; split at hc <;> first | (injection hc with hc; subst hc; cases ha) | cases hc
  | nilCheck x => simp only [cOp] at hc; split at hc <;> first | (injection hc with hc; subst hc; cases ha) | cases hc
  | binOp bop t x y ty2 =>
    simp only [cOp] at hc
    exfalso
    have : actsA op = false := by
      unfold cBin at hc
      split at hc
      · cases bop <;> simp only at hc <;> first
          | (injection hc with hc; subst hc; rfl)
          | ((repeat' split at hc) <;> first | (injection hc with hc; subst hc; rfl) | cases hc)
      · cases hc
    rw [this] at ha; cases ha
  | unOp uop t x => simp only [cOp] at hc; split at hc <;> first | (injection hc with hc; subst hc; cases ha) | cases hc
  | convert s t x =>
    simp only [cOp] at hc
    exfalso
    have : actsA op = false := by
      unfold cConvert at hc
      (repeat' split at hc) <;> first | (injection hc with hc; subst hc; rfl) | cases hc
    rw [this] at ha; cases ha
  | makeInterface t x => simp only [cOp] at hc; split at hc <;> first | (injection hc with hc; subst hc; cases ha) | cases hc
  | makeFunc fn fi ca =>
    cases fn with
    | func f => simp only [cOp] at hc; split at hc <;> first | (injection hc with hc; subst hc; cases ha) | cases hc
    | method n => simp [cOp] at hc
    | methodOf t n => simp [cOp] at hc
    | via a b c d => simp [cOp] at hc
    | yield l => simp [cOp] at hc
  | makeMap t r => cases r with
    | some x => simp [cOp] at hc
    | none => simp only [cOp, Option.some.injEq] at hc; subst hc; cases ha
  | makeSlice t n c => simp only [cOp] at hc; (repeat' split at hc) <;> first | (injection hc with hc; subst hc; cases ha) | cases hc
  | slice t x lo hi mx =>
    simp only [cOp] at hc
    exfalso
    have : actsA op = false := by
      split at hc
      · unfold cSlice at hc
        (repeat' split at hc) <;> first | (injection hc with hc; subst hc; rfl) | cases hc
      · cases hc
    rw [this] at ha; cases ha
  | fieldAddr t x f => simp only [cOp] at hc; (repeat' split at hc) <;> first | (injection hc with hc; subst hc; cases ha) | cases hc
  | field t x f => simp only [cOp] at hc; (repeat' split at hc) <;> first | (injection hc with hc; subst hc; cases ha) | cases hc
  | indexAddr t x i => simp only [cOp] at hc; (repeat' split at hc) <;> first | (injection hc with hc; subst hc; cases ha) | cases hc
  | index t x i => simp only [cOp] at hc; (repeat' split at hc) <;> first | (injection hc with hc; subst hc; cases ha) | cases hc
  | lookup t a k ok => simp only [cOp] at hc; (repeat' split at hc) <;> first | (injection hc with hc; subst hc; cases ha) | cases hc
  | extract t i => simp only [cOp] at hc; split at hc <;> first | (injection hc with hc; subst hc; cases ha) | cases hc
  | ready g => simp [cOp] at hc
  | waits g => simp [cOp] at hc
  | sliceToArrayPointer a b => simp [cOp] at hc
  | makeChan a b => simp [cOp] at hc
  | range a b => simp [cOp] at hc
  | next a b => simp [cOp] at hc
  | entry a => simp [cOp] at hc
  | typeAssert a b c d => simp [cOp] at hc
  | go c => simp [cOp] at hc
  | defer c => simp [cOp] at hc
  | panic x => simp [cOp] at hc
  | send a b => simp [cOp] at hc
  | recv a b c => simp [cOp] at hc
  | select a b => simp [cOp] at hc
end
end Go.Av
