/- Loads, stores: what the abstract machine reads and writes is what the model does. -/
import Derived.Test.YtgnpkjfaekimcaaDoorAvRel
import Derived.Test.YtgnpkjfaekimcaaDoorAvComp
set_option linter.unusedVariables false
set_option linter.unusedSimpArgs false
set_option linter.unusedSectionVars false
namespace Go.Av
section
variable {P : Program} {m : Mp} {w : World}

theorem cell_of {r off : Nat} {arr : Array Value} {T : TypeId} {fz : Nat × Nat} (h : w.heap[r]? = some (.cells arr T fz)) : w.cell? ⟨r, off, none⟩ = arr[off]? := by
  simp [World.cell?, h]
theorem frozen_of {r off : Nat} {arr : Array Value} {T : TypeId} {fz : Nat × Nat} (h : w.heap[r]? = some (.cells arr T fz)) (hf : Free arr fz) (ho : off < arr.size) :
    w.frozen? ⟨r, off, none⟩ = false := by
  have := hf off ho
  simp only [World.frozen?, h]
  rw [Bool.eq_false_iff]
  intro e
  simp only [Bool.and_eq_true, decide_eq_true_eq] at e
  exact this e

theorem info_szOf {t : TypeId} {n : Nat} (h : szOf P t = some n) : ∃ i, P.info? t = some i ∧ i.size = n := by
  unfold szOf at h
  split at h
  · rename_i i hi; injection h with h; exact ⟨i, hi, h⟩
  · cases h
theorem run_sizeOf' {t : TypeId} {n : Nat} (h : szOf P t = some n) : (sizeOf t).run P w = .ok n w := by
  obtain ⟨i, hi, hn⟩ := info_szOf h
  simp [sizeOf, typeInfo, hi, hn]
theorem run_und {t : TypeId} {d : TypeDesc} (h : P.underlying t = some d) : (underlying t).run P w = .ok d w := by simp [underlying, h]
theorem run_isAgg {t : TypeId} {n : Option Nat} (h : aggOf P t = some n) : (isAgg t).run P w = .ok n.isSome w ∧ (∀ k, n = some k → szOf P t = some k) := by
  unfold aggOf at h
  split at h
  · rename_i hu hs; injection h with h; subst h; exact ⟨by simp [isAgg, run_und hu], fun k hk => by injection hk with hk; rw [hs, hk]⟩
  · rename_i hu hs; injection h with h; subst h; exact ⟨by simp [isAgg, run_und hu], fun k hk => by injection hk with hk; rw [hs, hk]⟩
  · rename_i d n' hd1 hd2 hu hs
    injection h with h; subst h
    refine ⟨?_, fun k hk => by cases hk⟩
    simp only [isAgg, Sem.run_bind, run_und hu, Result.andThen_ok]
    cases d <;> first | rfl | exact (hd1 _ rfl).elim | exact (hd2 _ _ rfl).elim
  · cases h

/-- A row of cells that is read. -/
theorem cells_of_sub {c : List AV} {o n : Nat} {l : List AV} {arr : Array Value} {base : Nat} (hs : sub c o n = some l) (hc : CellsAt m base c arr) :
    ∃ cs : List Value, cs.length = n ∧ VRL m l cs ∧ ∀ j v, cs[j]? = some v → arr[base + o + j]? = some v := by
  obtain ⟨h1, h2⟩ := sub_eq.1 hs
  have hl : l.length = n := by rw [h2, List.length_take]; exact Nat.min_eq_left h1
  have hget : ∀ i x, l[i]? = some x → c[o + i]? = some x := by
    intro i x hx
    rw [h2, List.getElem?_take] at hx
    split at hx
    · rwa [List.getElem?_drop] at hx
    · cases hx
  have hall : ∀ j, j < n → ∃ v, arr[base + o + j]? = some v := by
    intro j hj
    have hj' : j < l.length := by omega
    obtain ⟨v, hv, _⟩ := hc (o + j) _ (hget j _ (List.getElem?_eq_getElem hj'))
    exact ⟨v, by rw [← hv]; congr 1; omega⟩
  refine ⟨(List.range n).map fun j => (arr[base + o + j]?).getD undef, by simp, VRL.of_get (by simp [hl]) ?_, ?_⟩
  · intro i x hx
    rw [get?_eq] at hx
    obtain ⟨v, hv, hr⟩ := hc (o + i) x (hget i x hx)
    have hi : i < n := by
      rcases Nat.lt_or_ge i n with h | h
      · exact h
      · rw [List.getElem?_eq_none (by omega)] at hx; cases hx
    refine ⟨v, ?_, hr⟩
    have e : base + (o + i) = base + o + i := by omega
    rw [e] at hv
    simp [hi, hv]
  · intro j v hv
    by_cases hj : j < n
    · obtain ⟨u, hu⟩ := hall j hj
      simp [hj, hu] at hv
      rw [hu, hv]
    · simp [hj] at hv

theorem load_run {h : AHeap} {n : Option Nat} {a v : AV} {ca : Value} {t : TypeId} (hl : loadAt h n a = some v) (ht : aggOf P t = some n) (hcr : CR m h w) (ha : VR m a ca) :
    ∃ cv, (Instr.loadAt t ca).run P w = .ok cv w ∧ VR m v cv := by
  unfold loadAt at hl
  split at hl
  case h_2 => cases hl
  rename_i b o
  cases ha with | p _ _ q hq =>
  obtain ⟨_, _, obj, hget, hor⟩ := hcr b q hq
  rw [hget] at hl
  cases obj with
  | map => cases hl
  | dead => cases hl
  | cells c st prev ez =>
  simp only at hl
  cases hor with | cells _ _ _ _ arr T fz hw hc _ =>
  obtain ⟨hagg, hsz⟩ := run_isAgg (w := w) ht
  cases n with
  | none =>
    simp only at hl
    rw [get?_eq] at hl
    obtain ⟨cv, hcv, hr⟩ := hc o v hl
    refine ⟨cv, ?_, hr⟩
    simp [Instr.loadAt, Instr.sureAddr, loadVar, hagg, cell_of hw, hcv]
  | some k =>
    simp only at hl
    cases hs : sub c o k with
    | none => rw [hs] at hl; cases hl
    | some l =>
      rw [hs] at hl; simp only [Option.some.injEq] at hl; subst hl
      obtain ⟨cs, hlen, hvrl, hcs⟩ := cells_of_sub hs hc
      refine ⟨.agg cs.toArray, ?_, .agg _ _ (by simpa using hvrl)⟩
      have hk := run_sizeOf' (w := w) (hsz k rfl)
      have hload := run_loadCells_list (P := P) w ⟨q.blk, q.base + o, none⟩ cs (fun j x hx => by
        rw [Addr.add_lit, cell_of hw]; exact hcs j x hx)
      rw [hlen] at hload
      simp [Instr.loadAt, Instr.sureAddr, loadVar, hagg, hk, hload]

/-- A block, turned. -/
def setBlock (w : World) (r : Nat) (o : Obj) : World := { w with heap := w.heap.setIfInBounds r o }
theorem setBlock_get (w : World) (r : Nat) (o : Obj) (k : Nat) : (setBlock w r o).heap[k]? = if k = r ∧ r < w.heap.size then some o else w.heap[k]? := by
  simp only [setBlock, Array.getElem?_setIfInBounds]
  by_cases h : r = k
  · subst h
    by_cases h2 : r < w.heap.size <;> simp [h2]
  · rw [if_neg h, if_neg (by omega)]
theorem setBlock_size (w : World) (r : Nat) (o : Obj) : (setBlock w r o).heap.size = w.heap.size := by simp [setBlock]
theorem setBlock_twice (w : World) (r : Nat) (o o' : Obj) : setBlock (setBlock w r o) r o' = setBlock w r o' := by
  simp [setBlock]
theorem setCell_block {r off : Nat} {arr : Array Value} {T : TypeId} {fz : Nat × Nat} (h : w.heap[r]? = some (.cells arr T fz)) (v : Value) :
    w.setCell ⟨r, off, none⟩ v = setBlock w r (.cells (arr.setIfInBounds off v) T fz) := by
  have hr : r < w.heap.size := by
    rcases Nat.lt_or_ge r w.heap.size with h' | h'
    · exact h'
    · rw [Array.getElem?_eq_none h'] at h; cases h
  unfold World.setCell setBlock
  congr 1
  apply Array.ext_getElem?
  intro k
  rw [Array.getElem?_modify, Array.getElem?_setIfInBounds]
  by_cases e : r = k
  · subst e
    rw [if_pos rfl, if_pos rfl, if_pos hr, h]; rfl
  · rw [if_neg e, if_neg e]
def putAll : Array Value → Nat → List Value → Array Value
  | arr, _, [] => arr
  | arr, o, v :: vs => putAll (arr.setIfInBounds o v) (o + 1) vs
theorem putAll_size (vs : List Value) : ∀ (arr : Array Value) (o : Nat), (putAll arr o vs).size = arr.size := by
  induction vs with
  | nil => intro arr o; rfl
  | cons v vs ih => intro arr o; simp [putAll, ih]
theorem putAll_get (vs : List Value) : ∀ (arr : Array Value) (o : Nat), o + vs.length ≤ arr.size → ∀ k, (putAll arr o vs)[k]? = if o ≤ k ∧ k < o + vs.length then vs[k - o]? else arr[k]? := by
  induction vs with
  | nil => intro arr o _ k; simp [putAll]; intro h1 h2; omega
  | cons v vs ih =>
    intro arr o h k
    simp only [List.length_cons] at h ⊢
    rw [putAll, ih _ _ (by simp; omega), Array.getElem?_setIfInBounds]
    by_cases h1 : o + 1 ≤ k ∧ k < o + 1 + vs.length
    · rw [if_pos h1, if_pos (by omega)]
      have : k - o = (k - (o + 1)) + 1 := by omega
      rw [this, List.getElem?_cons_succ]
    · rw [if_neg h1]
      by_cases h2 : o = k
      · subst h2
        rw [if_pos rfl, if_pos (by omega), if_pos (by omega)]; simp
      · rw [if_neg h2, if_neg (by omega)]
theorem run_storeCells_at' {r o : Nat} {T : TypeId} {fz : Nat × Nat} : ∀ (vs : List Value) (i : Nat) (arr : Array Value) (w : World), w.heap[r]? = some (.cells arr T fz) → Free arr fz →
    o + i + vs.length ≤ arr.size → (∀ v ∈ vs, v.oneCell' = true) → (storeCells ⟨r, o, none⟩ vs i).run P w = .ok () (setBlock w r (.cells (putAll arr (o + i) vs) T fz)) := by
  intro vs
  induction vs with
  | nil =>
    intro i arr w h _ _ _
    simp only [storeCells, Sem.run_pure, putAll]
    congr 1
    have hr : r < w.heap.size := by
      rcases Nat.lt_or_ge r w.heap.size with h' | h'
      · exact h'
      · rw [Array.getElem?_eq_none h'] at h; cases h
    cases w
    simp only [setBlock, World.mk.injEq, and_true]
    apply Array.ext_getElem?
    intro k
    rw [Array.getElem?_setIfInBounds]
    by_cases e : r = k
    · subst e; simpa [hr] using h
    · rw [if_neg e]
  | cons v vs ih =>
    intro i arr w h hf hsz hone
    simp only [List.length_cons] at hsz
    have hlt : o + i < arr.size := by omega
    have hr : r < w.heap.size := by
      rcases Nat.lt_or_ge r w.heap.size with h' | h'
      · exact h'
      · rw [Array.getElem?_eq_none h'] at h; cases h
    have hst : (store ((⟨r, o, none⟩ : Addr).add i) v).run P w = .ok () (setBlock w r (.cells (arr.setIfInBounds (o + i) v) T fz)) := by
      rw [Addr.add_lit, run_store P w _ v _ (hone v (by simp)), cell_of h, Array.getElem?_eq_getElem hlt]
      simp only [frozen_of h hf hlt, Bool.false_eq_true, if_false, setCell_block h]
    simp only [storeCells, Sem.run_bind, hst, Result.andThen_ok]
    rw [ih (i + 1) (arr.setIfInBounds (o + i) v) _ (by rw [setBlock_get, if_pos ⟨rfl, hr⟩]) (by intro k hk; exact hf k (by simpa using hk)) (by simp; omega) (fun x hx => hone x (by simp [hx]))]
    rw [setBlock_twice]
    rfl
theorem oneCell_of {x : AV} {c : Value} (h : VR m x c) (hx : x.okCell = true) : c.oneCell' = true := by
  cases h <;> first | rfl | (simp [AV.okCell] at hx; done)
theorem okCells_mem : ∀ {l : List AV} {r : List Value}, okCells l = true → VRL m l r → ∀ v ∈ r, v.oneCell' = true
  | _, _, _, .nil, v, hv => by simp at hv
  | x :: l, c :: r, h, .cons _ _ _ _ e el, v, hv => by
    simp only [okCells] at h
    cases hx : x.okCell with
    | false => rw [hx] at h; cases h
    | true =>
      rw [hx] at h
      simp only [List.mem_cons] at hv
      rcases hv with rfl | hv
      · exact oneCell_of e hx
      · exact okCells_mem h el v hv
theorem okCells_get {l : List AV} (h : okCells l = true) : ∀ (i : Nat) (x : AV), l[i]? = some x → x.okCell = true := by
  induction l with
  | nil => intro i x hx; simp at hx
  | cons y l ih =>
    simp only [okCells] at h
    cases hy : y.okCell with
    | false => rw [hy] at h; cases h
    | true =>
      rw [hy] at h
      intro i x hx
      cases i with
      | zero => simp at hx; subst hx; exact hy
      | succ i => exact ih h i x (by simpa using hx)

/-- killing shadows: what else is there stays. -/
theorem killAll_spec : ∀ {ps : List Nat} {h h' : AHeap}, killAll h ps = some h' → h'.n = h.n ∧ h'.lim = h.lim ∧ (∀ q ∈ ps, h.lim ≤ q) ∧ ∀ b, h'.get b = if b ∈ ps then some .dead else h.get b
  | [], h, h', e => by simp only [killAll, Option.some.injEq] at e; subst e; simp
  | q :: ps, h, h', e => by
    simp only [killAll] at e
    split at e
    · cases e
    · rename_i hq
      obtain ⟨h1, h2, h3, h4⟩ := killAll_spec e
      refine ⟨h1, h2, ?_, fun b => ?_⟩
      · intro x hx
        simp only [List.mem_cons] at hx
        rcases hx with rfl | hx
        · exact blt_false.1 hq
        · exact h3 x hx
      · rw [h4, AHeap.get_put]
        by_cases hb : b ∈ ps
        · rw [if_pos hb, if_pos (by simp [hb])]
        · rw [if_neg hb]
          by_cases e : b = q
          · subst e; simp
          · rw [if_neg e, if_neg (by simp [hb, e])]

/-- What a write does to the abstract heap. -/
theorem writeAt_spec {h h' : AHeap} {b o : Nat} {vs : List AV} (e : writeAt h b o vs = some h') :
    ∃ c prev ez c', h.get b = some (.cells c .rw prev ez) ∧ h.lim ≤ b ∧ okCells vs = true ∧ splice c o vs = some c' ∧ (∀ q ∈ prev, h.lim ≤ q) ∧ h'.n = h.n ∧ h'.lim = h.lim ∧
      ∀ x, h'.get x = if x = b then some (.cells c' .rw [] ez) else if x ∈ prev then some .dead else h.get x := by
  unfold writeAt at e
  split at e
  · rename_i c prev ez hg
    split at e
    · rename_i c' hb hok hsp
      split at e
      · rename_i h1 hk
        injection e with e; subst e
        obtain ⟨k1, k2, k3, k4⟩ := killAll_spec hk
        refine ⟨c, prev, ez, c', hg, blt_false.1 hb, hok, hsp, k3, k1, k2, fun x => ?_⟩
        rw [AHeap.get_put, k4]
      · cases e
    · cases e
  · cases e

/-- A write, in the model and in the abstract heap. -/
theorem write_run {h h' : AHeap} {b o : Nat} {vs : List AV} {cs : List Value} {q : BI} (e : writeAt h b o vs = some h') (hr : HR P m h w) (hq : m b = some q) (hv : VRL m vs cs) :
    ∃ w', (storeCells ⟨q.blk, q.base + o, none⟩ cs).run P w = .ok () w' ∧ HR P m h' w' ∧ Chg m w w' ∧ w'.heap.size = w.heap.size ∧ ∀ x, m x = none → h'.get x = h.get x := by
  obtain ⟨c, prev, ez, c', hg, hlim, hok, hsp, hprev, hn, hl', hget⟩ := writeAt_spec e
  obtain ⟨hbn, hqw, obj, hg', hor⟩ := hr.cr b q hq
  rw [hg] at hg'; injection hg' with hg'; subst hg'
  cases hor with | cells _ _ _ _ arr T fz hw hc hrw =>
  obtain ⟨hfree, hroom, hcap, howned⟩ := hrw rfl
  obtain ⟨hs1, hs2, hs3⟩ := splice_eq hsp
  have hlen : vs.length = cs.length := hv.length
  have hfit : cs ≠ [] → q.base + o + cs.length ≤ arr.size := by
    intro hne
    have hvs : vs ≠ [] := by intro e0; rw [e0] at hlen; simp at hlen; exact hne (List.eq_nil_of_length_eq_zero hlen.symm)
    have h1 : o + vs.length ≤ c.length := hs1.resolve_left hvs
    have hpos : 0 < vs.length := by cases vs with | nil => exact absurd rfl hvs | cons => simp
    have hlt : o + vs.length - 1 < c.length := by omega
    obtain ⟨v, hv', _⟩ := hc (o + vs.length - 1) _ (List.getElem?_eq_getElem hlt)
    have : q.base + (o + vs.length - 1) < arr.size := by
      rcases Nat.lt_or_ge (q.base + (o + vs.length - 1)) arr.size with h' | h'
      · exact h'
      · rw [Array.getElem?_eq_none h'] at hv'; cases hv'
    omega
  have hrun : (storeCells ⟨q.blk, q.base + o, none⟩ cs).run P w = .ok () (setBlock w q.blk (.cells (putAll arr (q.base + o) cs) T fz)) := by
    by_cases hne : cs = []
    · subst hne
      simp only [storeCells, Sem.run_pure, putAll]
      congr 1
      cases w
      simp only [setBlock, World.mk.injEq, and_true]
      apply Array.ext_getElem?
      intro k
      rw [Array.getElem?_setIfInBounds]
      by_cases e : q.blk = k
      · subst e; simpa [hqw] using hw
      · rw [if_neg e]
    · have := run_storeCells_at' (P := P) (o := q.base + o) cs 0 arr w hw hfree (by simpa using hfit hne) (okCells_mem hok hv)
      simpa using this
  refine ⟨_, hrun, ?_, ?_, setBlock_size _ _ _, ?_⟩
  · -- the relation
    have hcells : CellsAt m q.base c' (putAll arr (q.base + o) cs) := by
      intro i x hx
      rw [hs3 i] at hx
      by_cases hne : cs = []
      · have hvs : vs = [] := by rw [hne] at hlen; exact List.eq_nil_of_length_eq_zero hlen
        subst hne; subst hvs
        rw [if_neg (by simp only [List.length_nil]; omega)] at hx
        simpa [putAll] using hc i x hx
      · rw [putAll_get cs arr _ (hfit hne)]
        by_cases hi : o ≤ i ∧ i < o + vs.length
        · rw [if_pos hi] at hx
          obtain ⟨v, hv1, hv2⟩ := hv.get (i := i - o) (x := x) (by rw [get?_eq]; exact hx)
          exact ⟨v, by rw [if_pos (by omega)]; rw [← hv1]; congr 1; omega, hv2⟩
        · rw [if_neg hi] at hx
          obtain ⟨v, hv1, hv2⟩ := hc i x hx
          exact ⟨v, by rw [if_neg (by omega)]; exact hv1, hv2⟩
    refine ⟨fun x qx hx => ?_, ?_, hr.glob, ?_⟩
    · obtain ⟨h1, h2, ox, h3, h4⟩ := hr.cr x qx hx
      refine ⟨by rw [hn]; exact h1, by rw [setBlock_size]; exact h2, ?_⟩
      by_cases exb : x = b
      · subst exb
        rw [hq] at hx; injection hx with hx; subst hx
        refine ⟨_, by rw [hget, if_pos rfl], .cells _ _ _ _ (putAll arr (q.base + o) cs) T fz (by rw [setBlock_get, if_pos ⟨rfl, hqw⟩]) hcells fun _ => ⟨?_, ?_, ?_, howned⟩⟩
        · intro k hk; rw [putAll_size] at hk; exact hfree k hk
        · rw [putAll_size]; exact hroom
        · intro he; rw [hs2]; exact hcap he
      · rw [hget x, if_neg exb]
        by_cases hxp : x ∈ prev
        · rw [if_pos hxp]; exact ⟨_, rfl, .dead⟩
        · rw [if_neg hxp]
          refine ⟨ox, h3, ?_⟩
          by_cases hdead : ox = .dead
          · subst hdead; exact .dead
          · have hne : qx.blk ≠ q.blk := by
              intro hblk
              exact hxp (hr.sep b x q qx _ ox hq hx (Ne.symm exb) hg h3 trivial hdead hblk.symm).1
            exact h4.same (by rw [setBlock_get, if_neg (by intro hh; exact hne hh.1)])
    · intro x y qx qy ox oy hx hy hxy hgx hgy hown hlive hblk
      rw [hget x] at hgx
      rw [hget y] at hgy
      by_cases exb : x = b
      · subst exb
        rw [if_pos rfl] at hgx; injection hgx with hgx; subst hgx
        rw [if_neg (Ne.symm hxy)] at hgy
        exfalso
        by_cases hyp : y ∈ prev
        · rw [if_pos hyp] at hgy; injection hgy with hgy; exact hlive hgy.symm
        · rw [if_neg hyp] at hgy
          exact hyp (hr.sep x y qx qy _ oy hx hy hxy hg hgy trivial hlive hblk).1
      · rw [if_neg exb] at hgx
        have hxp : x ∉ prev := by
          intro hxp; rw [if_pos hxp] at hgx; injection hgx with hgx; subst hgx; exact hown
        rw [if_neg hxp] at hgx
        by_cases eyb : y = b
        · subst eyb
          exfalso
          have := (hr.sep x y qx qy ox _ hx hy hxy hgx hg hown (by simp) hblk).2.1
          exact this
        · rw [if_neg eyb] at hgy
          by_cases hyp : y ∈ prev
          · rw [if_pos hyp] at hgy; injection hgy with hgy; exact absurd hgy.symm hlive
          · rw [if_neg hyp] at hgy
            exact hr.sep x y qx qy ox oy hx hy hxy hgx hgy hown hlive hblk
    · intro x qx ox hx hgx
      rw [hget x] at hgx
      by_cases exb : x = b
      · rw [if_pos exb] at hgx; injection hgx with hgx; subst hgx; intro p hp; simp [AObj.prevs] at hp
      · rw [if_neg exb] at hgx
        by_cases hxp : x ∈ prev
        · rw [if_pos hxp] at hgx; injection hgx with hgx; subst hgx; intro p hp; simp [AObj.prevs] at hp
        · rw [if_neg hxp] at hgx; exact hr.prev x qx ox hx hgx
  · refine ⟨rfl, rfl, rfl, by rw [setBlock_size]; exact Nat.le_refl _, fun r hr' hm => ?_⟩
    rw [setBlock_get, if_neg]
    rintro ⟨rfl, _⟩
    exact hm b q hq howned rfl
  · intro x hx
    rw [hget x, if_neg (by intro e; subst e; rw [hq] at hx; cases hx), if_neg]
    intro hxp
    have := hr.prev b q _ hq hg x hxp
    rw [hx] at this; cases this
end
end Go.Av
