/- append and copy. -/
import Derived.Test.YtgnpkjfaekimcaaDoorAvAct
set_option linter.unusedVariables false
set_option linter.unusedSimpArgs false
set_option linter.unusedSectionVars false
namespace Go.Av
section
variable {P : Program} {m : Mp} {h h' : AHeap} {w : World} {v : AV}

theorem growBy_le (need : Nat) : ∀ (r c : Nat), c < need → Builtin.growBy need r c ≤ need + (need + 768) / 4
  | 0, c, h => by simp only [Builtin.growBy]; omega
  | r + 1, c, h => by
    simp only [Builtin.growBy]
    rw [if_neg (by omega)]
    by_cases h2 : c + (c + 768) / 4 < need
    · exact growBy_le need r _ h2
    · cases r with
      | zero => simp only [Builtin.growBy]; omega
      | succ r => simp only [Builtin.growBy]; rw [if_pos (by omega)]; omega
theorem nextslicecap_le {need cap : Nat} (h : cap < need) : Builtin.nextslicecap need cap ≤ 2 * need + 2000 := by
  unfold Builtin.nextslicecap
  split
  · omega
  · split
    · omega
    · have := growBy_le need 4 cap h; omega
theorem big_false {n bytes : Nat} (h : big n bytes = false) : (2 * n + 2000) * (bytes + 1) ≤ 140737488355328 := blt_false.1 h
theorem big_cap {need cap bytes : Nat} (h : big need bytes = false) (hc : cap < need) : ¬ Builtin.nextslicecap need cap * bytes > 2 ^ 48 := by
  have h1 := big_false h
  have h2 : Builtin.nextslicecap need cap * bytes ≤ (2 * need + 2000) * (bytes + 1) := Nat.mul_le_mul (nextslicecap_le hc) (by omega)
  omega
theorem big_int {need bytes : Nat} (h : big need bytes = false) : ¬ (need : Int) > IntKind.i64.max := by
  have h1 := big_false h
  have h2 : (2 * need + 2000) * 1 ≤ (2 * need + 2000) * (bytes + 1) := Nat.mul_le_mul (Nat.le_refl _) (by omega)
  have : (IntKind.i64.max : Int) = 9223372036854775807 := by decide
  rw [this]; omega

theorem lenOf_run {x : AV} {cx : Value} {n : Nat} (e : lenOf x = some n) (hx : VR m x cx) : (Builtin.lenOf cx).run P w = .ok n w := by
  unfold lenOf at e
  split at e
  · cases hx; injection e with e; subst e; rfl
  · cases hx; injection e with e; subst e; rfl
  · cases hx with | s _ tb etb =>
    injection e with e; subst e; subst etb
    have : tb.data.toList.length = tb.size := by simp
    rw [this]; rfl
  · cases e

theorem firstCells_run {ez n : Nat} {x : AV} {cx : Value} {l : List AV} {k : Nat} (e : firstCells h ez n x = some l) (hcr : CR m h w) (hx : VR m x cx) (hl : lenOf x = some k) (hnk : n ≤ k) :
    ∃ cs : List Value, (∀ w' : World, w'.heap = w.heap → (Builtin.firstCells ez n cx).run P w' = .ok cs.toArray w') ∧ VRL m l cs ∧ cs.length = n * ez := by
  cases x <;> first | (simp [firstCells] at e; done) | skip
  · -- a text
    rename_i t
    simp only [firstCells] at e
    split at e
    · cases hx with | s _ tb etb =>
      subst etb
      obtain ⟨h1, h2⟩ := takeN_eq.1 e
      have hbl := (byteCells_VRL (m := m) tb.data.toList).length
      have e2 : ((tb.extract 0 n).data.map fun b => Value.int .u8 b.toNat) = ((tb.data.toList.map fun b => Value.int .u8 b.toNat).take n).toArray := by
        apply Array.ext'
        simp [List.extract, List.map_take]
      refine ⟨(tb.data.toList.map fun b => Value.int .u8 b.toNat).take n, fun w' _ => by simp only [Builtin.firstCells, Sem.run_pure, e2], ?_, ?_⟩
      · subst h2
        exact (byteCells_VRL (m := m) tb.data.toList).take n
      · simp at hbl h1 ⊢
        omega
    · cases e
  · -- nil
    simp only [firstCells] at e
    split at e
    · injection e with e; subst e
      cases hx
      exact ⟨[], fun w' _ => by simp [Builtin.firstCells], .nil, by simp⟩
    · cases e
  · -- a slice
    rename_i b o kk c
    simp only [lenOf, Option.some.injEq] at hl
    obtain ⟨cs, a, cp, hcx, hlen, hvrl, hload⟩ := firstCells_sl (P := P) e hcr hx (by omega)
    subst hcx
    exact ⟨cs, fun w' hw' => by simp [Builtin.firstCells, hload w' hw'], hvrl, hlen⟩

theorem zeroCells_size (zero : Array Value) (n : Nat) : (Builtin.zeroCells zero n).size = n * zero.size := by simp [Builtin.zeroCells]

/-- The end of append, in the model: where there is room. -/
def tailRoom (ez sLen need sCap : Nat) (base : Option Addr) (new : Sem (Array Value)) : Sem Value := do
  let n ← new
  if let some a := base then storeCells (a.add (sLen * ez)) n.toList
  pure (.slice base need sCap)
/-- And where there is none. -/
def tailGrow (P : Program) (elem : TypeId) (ez sLen need sCap : Nat) (s : Value) (new : Sem (Array Value)) : Sem Value := do
  let newCap ← choose (.appendCap need sCap elem)
  askRoom (newCap * (P.bytesOf elem))
  let old ← Builtin.firstCells ez sLen s
  let n ← new
  let z ← zeroValue elem
  let a ← newRow elem (old ++ n ++ Builtin.zeroCells z.cells (newCap - need))
  pure (.slice (some a) need newCap)

theorem CR.drawn {w' : World} (hcr : CR m h w) (he : w'.heap = w.heap) : CR m h w' := by
  intro b q hb
  obtain ⟨h1, h2, o, h3, h4⟩ := hcr b q hb
  exact ⟨h1, by rw [he]; exact h2, o, h3, h4.same (by rw [he])⟩

/-- A new array: the elder elements, the new ones, and room. -/
theorem grow_run {elem : TypeId} {z ez sLen n sCap : Nat} {s : AV} {cs : Value} {old new : List AV} {cn : List Value} {new_ : Sem (Array Value)} {zv : AV} (hh : HR P m h w) (hez : ez = z + 1)
    (hz : zeroOf P elem = some zv) (hzl : zv.cellsOf.length = ez) (hs : VR m s cs) (hsl : lenOf s = some sLen) (hold : firstCells h ez sLen s = some old) (hnew : ∀ w' : World, w'.heap = w.heap → (new_).run P w' = .ok cn.toArray w')
    (hn : VRL m new cn) (hnl : cn.length = n * ez) :
    ∃ cv w' m', (tailGrow P elem ez sLen (sLen + n) sCap cs new_).run P w = .ok cv w' ∧ Acted P m h w (.sl h.n 0 (sLen + n) (.u 0)) (h.push (.cells (old ++ new) .rw [] ez)) cv w' m' := by
  have hq : (Question.appendCap (sLen + n) sCap elem).forced = false := rfl
  let cap := (Question.appendCap (sLen + n) sCap elem).cut (w.tape w.drawn (.appendCap (sLen + n) sCap elem))
  have hcap : sLen + n ≤ cap := by show sLen + n ≤ sLen + n + _; omega
  let w1 : World := { w with drawn := w.drawn + 1 }
  obtain ⟨co, hor, hov, hol⟩ := firstCells_run (P := P) (w := w1) hold (hh.cr.drawn rfl) hs hsl (Nat.le_refl _)
  obtain ⟨zz, hzr, _, hzv⟩ := zeroOf_run (P := P) (m := m) (w := w1) hz
  have hzs : zz.cells.size = ez := by have := hzv.length; simp at this; omega
  let cells : Array Value := co.toArray ++ cn.toArray ++ Builtin.zeroCells zz.cells (cap - (sLen + n))
  have hcsz : cells.size = cap * ez := by
    simp only [cells, Array.size_append, List.size_toArray, zeroCells_size, hol, hnl, hzs]
    rw [← Nat.add_mul, ← Nat.add_mul]; congr 1; omega
  have hrun : (tailGrow P elem ez sLen (sLen + n) sCap cs new_).run P w = .ok (.slice (some ⟨w.heap.size, 0, none⟩) (sLen + n) cap) (pushW w1 (.cells cells elem)) := by
    unfold tailGrow
    simp only [Sem.run_bind, run_choose, hq, Bool.false_eq_true, if_false, Result.andThen_ok, run_askRoom]
    show ((Builtin.firstCells ez sLen cs).run P w1).andThen _ = _
    rw [hor w1 rfl]
    simp only [Result.andThen_ok, hnew w1 rfl, hzr]
    have hnr : (newRow elem (co.toArray ++ cn.toArray ++ Builtin.zeroCells zz.cells (cap - (sLen + n)))).run P w1 = .ok ⟨w.heap.size, 0, none⟩ (pushW w1 (.cells cells elem)) := run_newRow' (w := w1) elem cells
    show ((newRow elem (co.toArray ++ cn.toArray ++ Builtin.zeroCells zz.cells (cap - (sLen + n)))).run P w1).andThen _ = _
    rw [hnr]
    rfl
  have hst : Still m h w (.sl h.n 0 (sLen + n) (.u 0)) (h.push (.cells (old ++ new) .rw [] ez)) (.slice (some ⟨w.heap.size, 0, none⟩) (sLen + n) cap) (pushW w1 (.cells cells elem)) (m.upd h.n ⟨w.heap.size, 0, cap, true⟩) := by
    refine .made _ cap rfl ⟨rfl, rfl, rfl, by simp [pushW, w1], fun r hr => by simp only [pushW, w1]; rw [Array.getElem?_push, if_neg (by omega)]⟩ (by simp [pushW, w1]) rfl ?_ trivial rfl (vr_newS _ cap (.u 0) cap rfl hcap)
    refine .cells _ _ _ _ cells elem (0, 0) (pushW_get w1 (.cells cells elem)) ?_ fun _ => ⟨free_zero cells, by rw [hcsz]; simp, fun _ => ?_, rfl⟩
    · intro i x hx
      obtain ⟨c, hc, hr⟩ := (((hov.append hn).mono (Mp.le_upd (q := ⟨w.heap.size, 0, cap, true⟩) hh.cr.fresh))).get (by rw [get?_eq]; exact hx)
      refine ⟨c, ?_, hr⟩
      have hi : i < co.length + cn.length := by
        rcases Nat.lt_or_ge i (co ++ cn).length with h' | h'
        · simpa using h'
        · rw [List.getElem?_eq_none h'] at hc; cases hc
      simp only [Nat.zero_add, cells]
      rw [Array.getElem?_append_left (by simpa using hi)]
      have : (co.toArray ++ cn.toArray)[i]? = (co ++ cn)[i]? := by simp
      rw [this]; exact hc
    · have := (hov.append hn).length
      rw [this]; simp only [List.length_append, hol, hnl]
      rw [← Nat.add_mul]; exact Nat.mul_le_mul hcap (Nat.le_refl _)
  exact ⟨_, _, _, hrun, hst.vr, hst.hr hh, hst.grow hh.cr.fresh, hst.new.chg m, by simp, rfl, fun b hb _ => by rw [AHeap.get_push, if_neg (by omega)]⟩

/-- In place: where the elements are there, and are written over. -/
theorem room_run {ez sLen n sCap : Nat} {b o : Nat} {c : ACap} {cs : Value} {new : List AV} {cn : List Value} {new_ : Sem (Array Value)} (hh : HR P m h w) (hs : VR m (.sl b o sLen c) cs) (hw : writeAt h b (o + sLen * ez) new = some h')
    (hcap : ∀ q, m b = some q → sLen + n ≤ capOf q c ∧ sCap = capOf q c) (hnew : (new_).run P w = .ok cn.toArray w) (hn : VRL m new cn) (hpos : 0 < n) :
    ∃ base cv w', cs = .slice base sLen sCap ∧ sLen + n ≤ sCap ∧ (tailRoom ez sLen (sLen + n) sCap base new_).run P w = .ok cv w' ∧ Acted P m h w (.sl b o (sLen + n) c) h' cv w' m := by
  cases hs with | sl _ _ _ _ q off hq hnn ho =>
  obtain ⟨h1, h2⟩ := hcap q hq
  subst h2
  have hoff : off = ⟨q.blk, q.base + o, none⟩ := by
    rcases ho with ho | ho
    · exact ho
    · omega
  subst hoff
  obtain ⟨w', hr, hh', hchg, _, hout⟩ := write_run (P := P) hw hh hq hn
  obtain ⟨c0, prev, ez0, c', hg, hlim, hok, hsp, hprev, hn', hl', hget⟩ := writeAt_spec hw
  refine ⟨_, .slice (some ⟨q.blk, q.base + o, none⟩) (sLen + n) (capOf q c), w', rfl, h1, ?_, ⟨.sl b o _ c q _ hq h1 (.inl rfl), hh', by rw [hn']; exact Grow.refl _ _ _, hchg, by rw [hn']; exact Nat.le_refl _, hl', fun x _ hx => hout x hx⟩⟩
  simp only [tailRoom, Sem.run_bind, hnew, Result.andThen_ok, Addr.add_lit]
  have : (⟨q.blk, q.base + o + sLen * ez, none⟩ : Addr) = ⟨q.blk, q.base + (o + sLen * ez), none⟩ := by rw [Nat.add_assoc]
  rw [this, hr]
  simp

/-- At the frontier: in place behind what is known, or in a new array; which, is not known. -/
theorem front_run {elem : TypeId} {z ez sLen n e : Nat} {b o : Nat} {cs : Value} {cc old new : List AV} {prev : List Nat} {cn : List Value} {new_ : Sem (Array Value)} {zv : AV} (hh : HR P m h w) (hez : ez = z + 1)
    (hz : zeroOf P elem = some zv) (hzl : zv.cellsOf.length = ez) (hs : VR m (.sl b o sLen (.u e)) cs) (hg : h.get b = some (.cells cc .rw prev ez)) (hoe : o = e * ez) (hfr : o + sLen * ez = cc.length)
    (hold : firstCells h ez sLen (.sl b o sLen (.u e)) = some old) (hnew : ∀ w' : World, w'.heap = w.heap → (new_).run P w' = .ok cn.toArray w') (hn : VRL m new cn) (hnl : cn.length = n * ez) (hok : okCells new = true) (hpos : 0 < n) :
    ∃ base sCap, cs = .slice base sLen sCap ∧
      (sLen + n ≤ sCap → ∃ cv w' m', (tailRoom ez sLen (sLen + n) sCap base new_).run P w = .ok cv w' ∧ Acted P m h w (.sl h.n 0 (sLen + n) (.u 0)) ((h.put b (.cells cc .sh [] ez)).push (.cells (old ++ new) .rw (b :: prev) ez)) cv w' m') ∧
      (¬ sLen + n ≤ sCap → ∃ cv w' m', (tailGrow P elem ez sLen (sLen + n) sCap cs new_).run P w = .ok cv w' ∧ Acted P m h w (.sl h.n 0 (sLen + n) (.u 0)) ((h.put b (.cells cc .sh [] ez)).push (.cells (old ++ new) .rw (b :: prev) ez)) cv w' m') := by
  have hs' := hs
  cases hs with | sl _ _ _ _ q off hq hnn ho =>
  refine ⟨_, _, rfl, fun hroom => ?_, fun hroom => ?_⟩
  · -- in place
    simp only [capOf] at hroom hnn ho ⊢
    have hoff : off = ⟨q.blk, q.base + o, none⟩ := by
      rcases ho with ho | ho
      · exact ho
      · omega
    subst hoff
    obtain ⟨hbn, hqw, obj, hg', hor⟩ := hh.cr b q hq
    rw [hg] at hg'; injection hg' with hg'; subst hg'
    cases hor with | cells _ _ _ _ arr T fz hw hc hrw =>
    obtain ⟨hfree, hsz, hcl, howned⟩ := hrw rfl
    have hle : e + sLen + n ≤ q.cap := by omega
    have hmul : (e + sLen + n) * ez ≤ q.cap * ez := Nat.mul_le_mul hle (Nat.le_refl _)
    have hmul2 : (e + sLen + n) * ez = o + sLen * ez + n * ez := by rw [hoe, Nat.add_mul, Nat.add_mul]
    have hfit : q.base + (o + sLen * ez) + cn.length ≤ arr.size := by rw [hnl]; omega
    let arr' := putAll arr (q.base + (o + sLen * ez)) cn
    let w' := setBlock w q.blk (.cells arr' T fz)
    have hrun : (storeCells ⟨q.blk, q.base + (o + sLen * ez), none⟩ cn).run P w = .ok () w' := by
      have := run_storeCells_at' (P := P) (o := q.base + (o + sLen * ez)) cn 0 arr w hw hfree (by simpa using hfit) (okCells_mem hok hn)
      simpa using this
    have hcb : ∀ i, i < o + sLen * ez → arr'[q.base + i]? = arr[q.base + i]? := by
      intro i hi
      rw [putAll_get cn arr _ hfit, if_neg (by omega)]
    have hf : m h.n = none := hh.cr.fresh
    let q' : BI := ⟨q.blk, q.base + o, q.cap - e, true⟩
    have hle' : m.Le (m.upd h.n q') := Mp.le_upd hf
    have hbne : b ≠ h.n := by omega
    -- the elder elements
    obtain ⟨co, _, hov, hol⟩ := firstCells_run (P := P) hold hh.cr hs' rfl (Nat.le_refl _)
    have holdcells : ∀ i x, old[i]? = some x → cc[o + i]? = some x := by
      intro i x hx
      unfold firstCells at hold
      cases sLen with
      | zero => simp only [Option.some.injEq] at hold; subst hold; simp at hx
      | succ k =>
        simp only [hg] at hold
        obtain ⟨h1, h2⟩ := sub_eq.1 hold
        rw [h2, List.getElem?_take] at hx
        split at hx
        · rwa [List.getElem?_drop] at hx
        · cases hx
    have hOldLen : old.length = sLen * ez := by rw [hov.length, hol]
    have hNewLen : new.length = n * ez := by rw [hn.length, hnl]
    have hnewcells : CellsAt (m.upd h.n q') q'.base (old ++ new) arr' := by
      intro i x hx
      by_cases hi : i < old.length
      · rw [List.getElem?_append_left hi] at hx
        obtain ⟨c, hc1, hc2⟩ := hc (o + i) x (holdcells i x hx)
        refine ⟨c, ?_, hc2.mono hle'⟩
        have := hcb (o + i) (by omega)
        show arr'[q.base + o + i]? = some c
        rw [Nat.add_assoc, this]; exact hc1
      · rw [List.getElem?_append_right (by omega)] at hx
        obtain ⟨c, hc1, hc2⟩ := hn.get (by rw [get?_eq]; exact hx)
        refine ⟨c, ?_, hc2.mono hle'⟩
        show arr'[q.base + o + i]? = some c
        have hlt : i - old.length < cn.length := by
          rcases Nat.lt_or_ge (i - old.length) cn.length with h' | h'
          · exact h'
          · rw [List.getElem?_eq_none h'] at hc1; cases hc1
        rw [putAll_get cn arr _ hfit, if_pos (by omega), ← hc1]
        congr 1; omega
    have hgetP : ∀ x, ((h.put b (.cells cc .sh [] ez)).push (.cells (old ++ new) .rw (b :: prev) ez)).get x = if x = h.n then some (.cells (old ++ new) .rw (b :: prev) ez) else if x = b then some (.cells cc .sh [] ez) else h.get x := by
      intro x; rw [AHeap.get_push, AHeap.get_put]; rfl
    -- who else lies there
    have hother : ∀ x qx ox, m x = some qx → x ≠ b → h.get x = some ox → ox ≠ .dead → qx.blk = q.blk → x ∈ prev ∧ ox.isSh ∧ qx.base + ox.len ≤ q.base + cc.length := by
      intro x qx ox hx hxb hgx hlive hblk
      exact hh.sep b x q qx _ ox hq hx (Ne.symm hxb) hg hgx trivial hlive hblk.symm
    refine ⟨.slice (some ⟨q.blk, q.base + o, none⟩) (sLen + n) (q.cap - e), w', m.upd h.n q', ?_, ?_⟩
    · simp only [tailRoom, Sem.run_bind, hnew w rfl, Result.andThen_ok, Addr.add_lit]
      have : (⟨q.blk, q.base + o + sLen * ez, none⟩ : Addr) = ⟨q.blk, q.base + (o + sLen * ez), none⟩ := by rw [Nat.add_assoc]
      rw [this, hrun]
      simp
    · refine ⟨?_, ⟨fun x qx hx => ?_, ?_, fun g hg' => ?_, fun x qx ox hx hgx p hp => ?_⟩, ⟨hle', fun x qx hx hm => ?_, fun x hx hx' => ?_⟩, ⟨rfl, rfl, rfl, by show w.heap.size ≤ (setBlock w q.blk _).heap.size; rw [setBlock_size]; exact Nat.le_refl _, fun r hr hm => ?_⟩, by simp, rfl, fun x hx hmx => ?_⟩
      · exact VR.sl h.n 0 (sLen + n) (.u 0) q' _ (Mp.upd_same _ _ _) (by simp only [capOf, q']; omega) (.inl rfl)
      · by_cases exn : x = h.n
        · subst exn
          rw [Mp.upd_same] at hx; injection hx with hx; subst hx
          refine ⟨by simp, by show q.blk < (setBlock w q.blk _).heap.size; rw [setBlock_size]; exact hqw, _, by rw [hgetP, if_pos rfl], .cells _ _ _ _ arr' T fz (by show (setBlock w q.blk _).heap[q.blk]? = _; rw [setBlock_get, if_pos ⟨rfl, hqw⟩]) hnewcells fun _ => ⟨?_, ?_, fun _ => ?_, rfl⟩⟩
          · intro k hk; rw [putAll_size] at hk; exact hfree k hk
          · show q.base + o + (q.cap - e) * ez ≤ arr'.size
            rw [putAll_size]
            have : o + (q.cap - e) * ez = q.cap * ez := by rw [hoe, ← Nat.add_mul]; congr 1; omega
            omega
          · rw [List.length_append, hOldLen, hNewLen, ← Nat.add_mul]
            exact Nat.mul_le_mul hroom (Nat.le_refl _)
        · rw [Mp.upd_ne _ _ exn] at hx
          obtain ⟨h1, h2, ox, h3, h4⟩ := hh.cr x qx hx
          refine ⟨by simp; omega, by show qx.blk < (setBlock w q.blk _).heap.size; rw [setBlock_size]; exact h2, ?_⟩
          by_cases exb : x = b
          · subst exb
            rw [hq] at hx; injection hx with hx; subst hx
            refine ⟨_, by rw [hgetP, if_neg exn, if_pos rfl], .cells _ _ _ _ arr' T fz (by show (setBlock w q.blk _).heap[q.blk]? = _; rw [setBlock_get, if_pos ⟨rfl, hqw⟩]) ?_ fun hst => by cases hst⟩
            intro i y hy
            have hi : i < cc.length := by
              rcases Nat.lt_or_ge i cc.length with h' | h'
              · exact h'
              · rw [List.getElem?_eq_none h'] at hy; cases hy
            obtain ⟨c, hc1, hc2⟩ := hc i y hy
            exact ⟨c, by rw [hcb i (by omega)]; exact hc1, hc2.mono hle'⟩
          · refine ⟨ox, by rw [hgetP, if_neg exn, if_neg exb]; exact h3, ?_⟩
            by_cases hdead : ox = .dead
            · subst hdead; exact .dead
            · by_cases hblk : qx.blk = q.blk
              · obtain ⟨_, hsh, hend⟩ := hother x qx ox hx exb h3 hdead hblk
                cases h4 with
                | dead => exact .dead
                | map es cl entries hw2 _ => rw [hblk, hw] at hw2; cases hw2
                | cells c2 st2 prev2 ez2 arr2 T2 fz2 hw2 hc2 hrw2 =>
                  rw [hblk, hw] at hw2; injection hw2 with hw2; injection hw2 with ha hT hfz
                  subst ha; subst hT; subst hfz
                  have hst2 : st2 = .sh := by cases st2 <;> simp_all [AObj.isSh]
                  subst hst2
                  refine .cells _ _ _ _ arr' T fz (by rw [hblk]; show (setBlock w q.blk _).heap[q.blk]? = _; rw [setBlock_get, if_pos ⟨rfl, hqw⟩]) ?_ fun hst => by cases hst
                  intro i y hy
                  have hi : i < c2.length := by
                    rcases Nat.lt_or_ge i c2.length with h' | h'
                    · exact h'
                    · rw [List.getElem?_eq_none h'] at hy; cases hy
                  obtain ⟨c, hc1, hc3⟩ := hc2 i y hy
                  simp only [AObj.len] at hend
                  refine ⟨c, ?_, hc3.mono hle'⟩
                  rw [putAll_get cn arr _ hfit, if_neg (by omega)]; exact hc1
              · exact (h4.same (by show (setBlock w q.blk _).heap[qx.blk]? = _; rw [setBlock_get, if_neg (by intro hc; exact hblk hc.1)])).mono hle'
      · intro x y qx qy ox oy hx hy hxy hgx hgy hown hlive hblk
        rw [hgetP] at hgx hgy
        by_cases exn : x = h.n
        · subst exn
          rw [Mp.upd_same] at hx; injection hx with hx; subst hx
          rw [if_pos rfl] at hgx; injection hgx with hgx; subst hgx
          rw [Mp.upd_ne _ _ (Ne.symm hxy)] at hy
          rw [if_neg (Ne.symm hxy)] at hgy
          by_cases eyb : y = b
          · subst eyb
            rw [if_pos rfl] at hgy; injection hgy with hgy; subst hgy
            rw [hq] at hy; injection hy with hy; subst hy
            refine ⟨by simp [AObj.prevs], trivial, ?_⟩
            simp only [AObj.len, q', List.length_append, hOldLen, hNewLen]; omega
          · rw [if_neg eyb] at hgy
            obtain ⟨h1, h2, h3⟩ := hother y qy oy hy eyb hgy hlive hblk.symm
            refine ⟨by simp [AObj.prevs, h1], h2, ?_⟩
            have e1 : (AObj.cells (old ++ new) ASt.rw (b :: prev) ez).len = sLen * ez + n * ez := by simp only [AObj.len, List.length_append, hOldLen, hNewLen]
            rw [e1]
            show qy.base + oy.len ≤ q.base + o + (sLen * ez + n * ez)
            omega
        · rw [Mp.upd_ne _ _ exn] at hx
          rw [if_neg exn] at hgx
          by_cases exb : x = b
          · subst exb
            rw [if_pos rfl] at hgx; injection hgx with hgx; subst hgx
            exact hown.elim
          · rw [if_neg exb] at hgx
            have hxq : qx.blk ≠ q.blk := by
              intro hb2
              have := (hh.sep x b qx q ox _ hx hq exb hgx hg hown (by simp) hb2).2.1
              exact this
            by_cases eyn : y = h.n
            · subst eyn
              rw [Mp.upd_same] at hy; injection hy with hy; subst hy
              exact (hxq hblk).elim
            · rw [Mp.upd_ne _ _ eyn] at hy
              rw [if_neg eyn] at hgy
              by_cases eyb : y = b
              · subst eyb
                rw [hq] at hy; injection hy with hy; subst hy
                exact (hxq hblk).elim
              · rw [if_neg eyb] at hgy
                exact hh.sep x y qx qy ox oy hx hy hxy hgx hgy hown hlive hblk
      · have h1 := hh.glob g hg'
        have : g ≠ h.n := by have := (hh.cr g _ h1).1; omega
        rw [Mp.upd_ne _ _ this]; exact h1
      · have hsome : ∀ p, (m p).isSome = true → (m.upd h.n q' p).isSome = true := by
          intro p hp
          cases hmp : m p with
          | none => rw [hmp] at hp; cases hp
          | some qp => rw [hle' _ _ hmp]; rfl
        rw [hgetP] at hgx
        by_cases exn : x = h.n
        · rw [if_pos exn] at hgx; injection hgx with hgx; subst hgx
          simp only [AObj.prevs, List.mem_cons] at hp
          rcases hp with rfl | hp
          · exact hsome _ (by rw [hq]; rfl)
          · exact hsome _ (hh.prev b q _ hq hg p hp)
        · rw [if_neg exn] at hgx
          by_cases exb : x = b
          · rw [if_pos exb] at hgx; injection hgx with hgx; subst hgx; simp [AObj.prevs] at hp
          · rw [if_neg exb] at hgx
            rw [Mp.upd_ne _ _ exn] at hx
            exact hsome _ (hh.prev x qx ox hx hgx p hp)
      · by_cases exn : x = h.n
        · subst exn
          rw [Mp.upd_same] at hx; injection hx with hx; subst hx
          exact ⟨Nat.le_refl _, by simp, .inr ⟨b, q, hq, rfl, howned⟩⟩
        · rw [Mp.upd_ne _ _ exn, hm] at hx; cases hx
      · have : x = h.n := by simp at hx'; omega
        subst this; rw [Mp.upd_same]; rfl
      · show (setBlock w q.blk _).heap[r]? = _
        rw [setBlock_get, if_neg]
        rintro ⟨rfl, _⟩
        exact hm b q hq howned rfl
      · rw [hgetP, if_neg (by omega), if_neg (by rintro rfl; rw [hq] at hmx; cases hmx)]
  · -- a new array
    obtain ⟨cv, w', m', hr, hact⟩ := grow_run (P := P) (sCap := capOf q (.u e)) hh hez hz hzl hs' (show lenOf (.sl b o sLen (.u e)) = some sLen from rfl) hold hnew hn hnl
    refine ⟨cv, w', m', hr, hact.vr, ?_, ?_, hact.chg, by simp, rfl, fun x hx hmx => by rw [AHeap.get_push, if_neg (by simp; omega), AHeap.get_put, if_neg (by rintro rfl; rw [hq] at hmx; cases hmx)]⟩
    · have hf := hh.cr.fresh
      have hbne : b ≠ h.n := by have := (hh.cr b q hq).1; omega
      have hgetP : ∀ x, ((h.put b (.cells cc .sh [] ez)).push (.cells (old ++ new) .rw (b :: prev) ez)).get x = if x = h.n then some (.cells (old ++ new) .rw (b :: prev) ez) else if x = b then some (.cells cc .sh [] ez) else h.get x := by
        intro x; rw [AHeap.get_push, AHeap.get_put]; rfl
      have hgetG : ∀ x, (h.push (.cells (old ++ new) .rw [] ez)).get x = if x = h.n then some (.cells (old ++ new) .rw [] ez) else h.get x := fun x => AHeap.get_push _ _ _
      refine ⟨fun x qx hx => ?_, ?_, hact.hr.glob, fun x qx ox hx hgx p hp => ?_⟩
      · obtain ⟨h1, h2, ox, h3, h4⟩ := hact.hr.cr x qx hx
        refine ⟨by simpa using h1, h2, ?_⟩
        rw [hgetG] at h3
        by_cases exn : x = h.n
        · rw [if_pos exn] at h3; injection h3 with h3; subst h3
          refine ⟨_, by rw [hgetP, if_pos exn], ?_⟩
          cases h4 with | cells _ _ _ _ arr T fz hw hc hrw => exact .cells _ _ _ _ arr T fz hw hc hrw
        · rw [if_neg exn] at h3
          by_cases exb : x = b
          · subst exb
            rw [hg] at h3; injection h3 with h3; subst h3
            refine ⟨_, by rw [hgetP, if_neg exn, if_pos rfl], ?_⟩
            cases h4 with | cells _ _ _ _ arr T fz hw hc hrw => exact .cells _ _ _ _ arr T fz hw hc (fun hst => by cases hst)
          · exact ⟨ox, by rw [hgetP, if_neg exn, if_neg exb]; exact h3, h4⟩
      · intro x y qx qy ox oy hx hy hxy hgx hgy hown hlive hblk
        rw [hgetP] at hgx hgy
        by_cases exn : x = h.n
        · subst exn
          rw [if_pos rfl] at hgx; injection hgx with hgx; subst hgx
          rw [if_neg (Ne.symm hxy)] at hgy
          exfalso
          have hgx' : (h.push (.cells (old ++ new) .rw [] ez)).get h.n = some (.cells (old ++ new) .rw [] ez) := by rw [hgetG, if_pos rfl]
          by_cases eyb : y = b
          · subst eyb
            have hgy' : (h.push (.cells (old ++ new) .rw [] ez)).get y = some (.cells cc .rw prev ez) := by rw [hgetG, if_neg (Ne.symm hxy)]; exact hg
            have := (hact.hr.sep h.n y qx qy _ _ hx hy hxy hgx' hgy' trivial (by simp) hblk).1
            simp [AObj.prevs] at this
          · rw [if_neg eyb] at hgy
            have hgy' : (h.push (.cells (old ++ new) .rw [] ez)).get y = some oy := by rw [hgetG, if_neg (Ne.symm hxy)]; exact hgy
            have := (hact.hr.sep h.n y qx qy _ _ hx hy hxy hgx' hgy' trivial hlive hblk).1
            simp [AObj.prevs] at this
        · rw [if_neg exn] at hgx
          by_cases exb : x = b
          · subst exb
            rw [if_pos rfl] at hgx; injection hgx with hgx; subst hgx
            exact hown.elim
          · rw [if_neg exb] at hgx
            have hgx' : (h.push (.cells (old ++ new) .rw [] ez)).get x = some ox := by rw [hgetG, if_neg exn]; exact hgx
            by_cases eyn : y = h.n
            · subst eyn
              exfalso
              have hgy' : (h.push (.cells (old ++ new) .rw [] ez)).get h.n = some (.cells (old ++ new) .rw [] ez) := by rw [hgetG, if_pos rfl]
              have := (hact.hr.sep x h.n qx qy _ _ hx hy hxy hgx' hgy' hown (by simp) hblk).2.1
              exact this
            · rw [if_neg eyn] at hgy
              by_cases eyb : y = b
              · subst eyb
                exfalso
                have hgy' : (h.push (.cells (old ++ new) .rw [] ez)).get y = some (.cells cc .rw prev ez) := by rw [hgetG, if_neg eyn]; exact hg
                have := (hact.hr.sep x y qx qy _ _ hx hy hxy hgx' hgy' hown (by simp) hblk).2.1
                exact this
              · rw [if_neg eyb] at hgy
                have hgy' : (h.push (.cells (old ++ new) .rw [] ez)).get y = some oy := by rw [hgetG, if_neg eyn]; exact hgy
                exact hact.hr.sep x y qx qy ox oy hx hy hxy hgx' hgy' hown hlive hblk
      · have hsome : ∀ p, (m p).isSome = true → (m' p).isSome = true := by
          intro p hp
          cases hmp : m p with
          | none => rw [hmp] at hp; cases hp
          | some qp => rw [hact.grow.le _ _ hmp]; rfl
        rw [hgetP] at hgx
        by_cases exn : x = h.n
        · rw [if_pos exn] at hgx; injection hgx with hgx; subst hgx
          simp only [AObj.prevs, List.mem_cons] at hp
          rcases hp with rfl | hp
          · exact hsome _ (by rw [hq]; rfl)
          · exact hsome _ (hh.prev b q _ hq hg p hp)
        · rw [if_neg exn] at hgx
          by_cases exb : x = b
          · rw [if_pos exb] at hgx; injection hgx with hgx; subst hgx; simp [AObj.prevs] at hp
          · rw [if_neg exb] at hgx
            exact hact.hr.prev x qx ox hx (by rw [hgetG, if_neg exn]; exact hgx) p hp
    · have := hact.grow
      simpa using this
end
end Go.Av
