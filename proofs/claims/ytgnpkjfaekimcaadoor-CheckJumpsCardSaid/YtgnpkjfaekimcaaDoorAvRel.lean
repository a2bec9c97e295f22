/- How the abstract machine's values and heap stand to the model's. -/
import Derived.Test.YtgnpkjfaekimcaaDoorAvNum
import Derived.Laws.Cells
set_option linter.unusedVariables false
set_option linter.unusedSimpArgs false
set_option linter.unusedSectionVars false
namespace Go.Av

/-- Where a block lies: the model's block, the cell where it begins, how many elements there is room for. -/
structure BI where
  blk : Nat
  base : Nat
  cap : Nat
  own : Bool
abbrev Mp := Nat → Option BI
def Mp.Le (m m' : Mp) : Prop := ∀ b q, m b = some q → m' b = some q
theorem Mp.Le.refl (m : Mp) : m.Le m := fun _ _ h => h
theorem Mp.Le.trans {a b c : Mp} (h : a.Le b) (k : b.Le c) : a.Le c := fun _ _ x => k _ _ (h _ _ x)
def Mp.upd (m : Mp) (b : Nat) (q : BI) : Mp := fun c => if c = b then some q else m c
theorem Mp.upd_same (m : Mp) (b : Nat) (q : BI) : m.upd b q b = some q := by simp [Mp.upd]
theorem Mp.upd_ne (m : Mp) {b c : Nat} (q : BI) (h : c ≠ b) : m.upd b q c = m c := by simp [Mp.upd, h]
theorem Mp.le_upd {m : Mp} {b : Nat} {q : BI} (h : m b = none) : m.Le (m.upd b q) := by
  intro c r hc
  by_cases e : c = b
  · subst e; rw [h] at hc; cases hc
  · rw [Mp.upd_ne m q e]; exact hc

def capOf (q : BI) : ACap → Nat
  | .k n => n
  | .u e => q.cap - e

mutual
inductive VR (m : Mp) : AV → Value → Prop
  | und (v : Value) : VR m .und v
  | b (x : Bool) : VR m (.b x) (.bool x)
  | i (k : IntKind) (n : Int) : VR m (.i k n) (.int k n)
  | s (x : List UInt8) (t : ByteArray) (h : t.data.toList = x) : VR m (.s x) (.string t)
  | nilp : VR m .nilp (.pointer none)
  | p (b o : Nat) (q : BI) (h : m b = some q) : VR m (.p b o) (.pointer (some ⟨q.blk, q.base + o, none⟩))
  | nils : VR m .nils (.slice none 0 0)
  | sl (b o n : Nat) (c : ACap) (q : BI) (off : Addr) (h : m b = some q) (hn : n ≤ capOf q c) (ho : off = ⟨q.blk, q.base + o, none⟩ ∨ capOf q c = 0) :
      VR m (.sl b o n c) (.slice (some off) n (capOf q c))
  | nilm : VR m .nilm (.map none)
  | m (b : Nat) (q : BI) (h : m b = some q) : VR m (.m b) (.map (some q.blk))
  | nilf : VR m .nilf .nilFunc
  | f (fn : Nat) (fi ca : List AV) (F C : Array Value) (hf : VRL m fi F.toList) (hc : VRL m ca C.toList) : VR m (.f fn fi ca) (.func (.func fn) F C)
  | nili : VR m .nili .nilIface
  | ifc (t : Nat) (v : AV) (c : Value) (h : VR m v c) : VR m (.ifc t v) (.iface t c)
  | agg (l : List AV) (c : Array Value) (h : VRL m l c.toList) : VR m (.agg l) (.agg c)
  | tup (l : List AV) (c : Array Value) (h : VRL m l c.toList) : VR m (.tup l) (.tuple c)
inductive VRL (m : Mp) : List AV → List Value → Prop
  | nil : VRL m [] []
  | cons (x : AV) (c : Value) (l : List AV) (r : List Value) (h : VR m x c) (hl : VRL m l r) : VRL m (x :: l) (c :: r)
end

mutual
theorem VR.mono {m m' : Mp} (h : m.Le m') : ∀ {v : AV} {c : Value}, VR m v c → VR m' v c
  | _, _, .und v => .und v
  | _, _, .b x => .b x
  | _, _, .i k n => .i k n
  | _, _, .s x t e => .s x t e
  | _, _, .nilp => .nilp
  | _, _, .p b o q e => .p b o q (h _ _ e)
  | _, _, .nils => .nils
  | _, _, .sl b o n c q off e hn ho => .sl b o n c q off (h _ _ e) hn ho
  | _, _, .nilm => .nilm
  | _, _, .m b q e => .m b q (h _ _ e)
  | _, _, .nilf => .nilf
  | _, _, .f fn fi ca F C hf hc => .f fn fi ca F C (VRL.mono h hf) (VRL.mono h hc)
  | _, _, .nili => .nili
  | _, _, .ifc t v c e => .ifc t v c (VR.mono h e)
  | _, _, .agg l c e => .agg l c (VRL.mono h e)
  | _, _, .tup l c e => .tup l c (VRL.mono h e)
theorem VRL.mono {m m' : Mp} (h : m.Le m') : ∀ {l : List AV} {r : List Value}, VRL m l r → VRL m' l r
  | _, _, .nil => .nil
  | _, _, .cons x c l r e el => .cons x c l r (VR.mono h e) (VRL.mono h el)
end

theorem VRL.length {m : Mp} : ∀ {l : List AV} {r : List Value}, VRL m l r → l.length = r.length
  | _, _, .nil => rfl
  | _, _, .cons _ _ _ _ _ hl => by simp [VRL.length hl]
theorem VRL.get {m : Mp} : ∀ {l : List AV} {r : List Value}, VRL m l r → ∀ {i : Nat} {x : AV}, get? l i = some x → ∃ c, r[i]? = some c ∧ VR m x c
  | _, _, .nil, _, _, h => by simp [get?] at h
  | _, _, .cons x c l r e el, i, y, h => by
    cases i with
    | zero => simp only [get?, Option.some.injEq] at h; subst h; exact ⟨c, rfl, e⟩
    | succ i => simp only [get?] at h; exact VRL.get el h
theorem VRL.append {m : Mp} : ∀ {l : List AV} {r : List Value} {l' : List AV} {r' : List Value}, VRL m l r → VRL m l' r' → VRL m (l ++ l') (r ++ r')
  | _, _, _, _, .nil, h => h
  | _, _, _, _, .cons x c l r e el, h => .cons x c _ _ e (VRL.append el h)
theorem VRL.of_get {m : Mp} : ∀ {l : List AV} {r : List Value}, l.length = r.length → (∀ i x, get? l i = some x → ∃ c, r[i]? = some c ∧ VR m x c) → VRL m l r
  | [], [], _, _ => .nil
  | x :: l, c :: r, hn, h => by
    obtain ⟨c', hc, hv⟩ := h 0 x rfl
    simp at hc; subst hc
    exact .cons x c l r hv (VRL.of_get (by simpa using hn) (fun i y hy => by simpa using h (i + 1) y hy))
theorem VRL.nthR {m : Mp} : ∀ {l : List AV} {r : List Value}, VRL m l r → ∀ (i : Nat) (d : Value), VR m (nth l i) (r.getD i d)
  | _, _, .nil, i, d => by simp [nth]; exact .und _
  | _, _, .cons x c l r e el, i, d => by
    cases i with
    | zero => simpa [nth] using e
    | succ i => simpa [nth] using VRL.nthR el i d

theorem get?_eq (l : List AV) (i : Nat) : get? l i = l[i]? := by
  induction l generalizing i with
  | nil => simp [get?]
  | cons x l ih => cases i with
    | zero => rfl
    | succ i => simpa [get?] using ih i
theorem nth_eq (l : List AV) (i : Nat) : nth l i = (l[i]?).getD .und := by
  induction l generalizing i with
  | nil => simp [nth]
  | cons x l ih => cases i with
    | zero => rfl
    | succ i => simpa [nth] using ih i
theorem setn_eq (l : List AV) (i : Nat) (v : AV) : setn l i v = l.set i v := by
  induction l generalizing i with
  | nil => simp [setn]
  | cons x l ih => cases i with
    | zero => rfl
    | succ i => simp [setn, ih]
theorem dropN_eq (l : List AV) (i : Nat) : dropN l i = l.drop i := by
  induction l generalizing i with
  | nil => cases i <;> simp [dropN]
  | cons x l ih => cases i with
    | zero => rfl
    | succ i => simp [dropN, ih]
theorem takeN_eq {l : List AV} {n : Nat} {r : List AV} : takeN l n = some r ↔ n ≤ l.length ∧ r = l.take n := by
  induction l generalizing n r with
  | nil => cases n <;> simp [takeN, eq_comm]
  | cons x l ih => cases n with
    | zero => simp [takeN, eq_comm]
    | succ n =>
      simp only [takeN]
      cases h : takeN l n with
      | none =>
        simp only [reduceCtorEq, false_iff, not_and]
        intro hn _
        have := (ih (n := n) (r := l.take n)).2 ⟨by simpa using hn, rfl⟩
        rw [h] at this; cases this
      | some r' =>
        obtain ⟨h1, h2⟩ := ih.1 h
        simp only [Option.some.injEq, List.length_cons, List.take_succ_cons, h2]
        constructor
        · intro e; exact ⟨by omega, e.symm⟩
        · rintro ⟨_, e⟩; exact e.symm
theorem sub_eq {l : List AV} {o n : Nat} {r : List AV} : sub l o n = some r ↔ n ≤ (l.drop o).length ∧ r = (l.drop o).take n := by
  unfold sub; rw [dropN_eq, takeN_eq]
theorem overlay_eq {c vs r : List AV} : overlay c vs = some r ↔ vs.length ≤ c.length ∧ r = vs ++ c.drop vs.length := by
  induction c generalizing vs r with
  | nil => cases vs <;> simp [overlay, eq_comm]
  | cons x c ih => cases vs with
    | nil => simp [overlay, eq_comm]
    | cons v vs =>
      simp only [overlay]
      cases h : overlay c vs with
      | none =>
        simp only [reduceCtorEq, false_iff, not_and]
        intro hn _
        have := (ih (vs := vs) (r := vs ++ c.drop vs.length)).2 ⟨by simpa using hn, rfl⟩
        rw [h] at this; cases this
      | some r' =>
        obtain ⟨h1, h2⟩ := ih.1 h
        simp only [Option.some.injEq, List.length_cons, List.drop_succ_cons, List.cons_append, h2]
        constructor
        · intro e; exact ⟨by omega, e.symm⟩
        · rintro ⟨_, e⟩; exact e.symm
theorem splice_eq {c vs r : List AV} {o : Nat} (h : splice c o vs = some r) :
    (vs = [] ∨ o + vs.length ≤ c.length) ∧ r.length = c.length ∧ ∀ i, r[i]? = if o ≤ i ∧ i < o + vs.length then vs[i - o]? else c[i]? := by
  induction c generalizing o r with
  | nil => cases o with
    | zero =>
      simp only [splice] at h
      obtain ⟨h1, h2⟩ := overlay_eq.1 h
      have : vs = [] := by simpa using h1
      subst this; simp at h2; subst h2
      exact ⟨.inl rfl, rfl, fun i => by simp⟩
    | succ o => simp [splice] at h
  | cons x c ih => cases o with
    | zero =>
      simp only [splice] at h
      obtain ⟨h1, h2⟩ := overlay_eq.1 h
      subst h2
      refine ⟨.inr (by simpa using h1), by simp at h1 ⊢; omega, fun i => ?_⟩
      by_cases hi : i < vs.length
      · rw [if_pos (by omega), List.getElem?_append_left hi]; simp
      · rw [if_neg (by omega), List.getElem?_append_right (by omega), List.getElem?_drop]
        congr 1; omega
    | succ o =>
      simp only [splice] at h
      cases hs : splice c o vs with
      | none => rw [hs] at h; cases h
      | some r' =>
        rw [hs] at h; injection h with h; subst h
        obtain ⟨h1, h2, h3⟩ := ih hs
        refine ⟨?_, by simp [h2], fun i => ?_⟩
        · rcases h1 with h1 | h1
          · exact .inl h1
          · exact .inr (by simp; omega)
        · cases i with
          | zero => simp
          | succ i =>
            simp only [List.getElem?_cons_succ, h3 i]
            by_cases hc : o ≤ i ∧ i < o + vs.length
            · rw [if_pos hc, if_pos (by omega)]; congr 1; omega
            · rw [if_neg hc, if_neg (by omega)]

/-! ## The heap's trie -/

theorem HT.get_e (i : Nat) : HT.e.get i = none := rfl
theorem HT.get_zero (t : HT) : t.get 0 = t.root := by cases t <;> rfl
theorem HT.get_odd (t : HT) (j : Nat) (h : j % 2 = 0) : t.get (j + 1) = t.left.get (j / 2) := by
  cases t with
  | e => rfl
  | n o l r => simp only [HT.get, HT.left, h]
theorem HT.get_even (t : HT) (j : Nat) (h : j % 2 ≠ 0) : t.get (j + 1) = t.right.get (j / 2) := by
  cases t with
  | e => rfl
  | n o l r =>
    have : j % 2 = 1 := by omega
    simp only [HT.get, HT.right, this]
theorem HT.get_setF : ∀ (f : Nat) (t : HT) (i : Nat) (o : AObj), i ≤ f → ∀ j, (HT.setF f t i o).get j = if j = i then some o else t.get j
  | 0, t, i, o, h, j => by
    have : i = 0 := by omega
    subst this
    simp only [HT.setF]
    cases j with
    | zero => simp [HT.get_zero, HT.root]
    | succ j =>
      rw [if_neg (by omega)]
      by_cases e : j % 2 = 0
      · rw [HT.get_odd _ _ e, HT.get_odd _ _ e]; rfl
      · rw [HT.get_even _ _ e, HT.get_even _ _ e]; rfl
  | f + 1, t, i, o, h, j => by
    cases i with
    | zero =>
      simp only [HT.setF]
      cases j with
      | zero => simp [HT.get_zero, HT.root]
      | succ j =>
        rw [if_neg (by omega)]
        by_cases e : j % 2 = 0
        · rw [HT.get_odd _ _ e, HT.get_odd _ _ e]; rfl
        · rw [HT.get_even _ _ e, HT.get_even _ _ e]; rfl
    | succ i =>
      simp only [HT.setF]
      by_cases ei : i % 2 = 0
      · simp only [ei]
        cases j with
        | zero => simp [HT.get_zero, HT.root]
        | succ j =>
          by_cases ej : j % 2 = 0
          · rw [HT.get_odd _ _ ej, HT.get_odd t _ ej]
            simp only [HT.left]
            rw [HT.get_setF f _ _ _ (by omega)]
            by_cases e : j = i
            · subst e; simp
            · rw [if_neg (by omega), if_neg (by omega)]
          · rw [HT.get_even _ _ ej, HT.get_even t _ ej, if_neg (by omega)]; rfl
      · have e1 : i % 2 = 1 := by omega
        simp only [e1]
        cases j with
        | zero => simp [HT.get_zero, HT.root]
        | succ j =>
          by_cases ej : j % 2 = 0
          · rw [HT.get_odd _ _ ej, HT.get_odd t _ ej, if_neg (by omega)]; rfl
          · rw [HT.get_even _ _ ej, HT.get_even t _ ej]
            simp only [HT.right]
            rw [HT.get_setF f _ _ _ (by omega)]
            by_cases e : j = i
            · subst e; simp
            · rw [if_neg (by omega), if_neg (by omega)]
theorem AHeap.get_put (h : AHeap) (b : Nat) (o : AObj) (c : Nat) : (h.put b o).get c = if c = b then some o else h.get c :=
  HT.get_setF _ _ _ _ (Nat.le_refl _) _
theorem AHeap.get_push (h : AHeap) (o : AObj) (c : Nat) : (h.push o).get c = if c = h.n then some o else h.get c :=
  HT.get_setF _ _ _ _ (Nat.le_refl _) _
@[simp] theorem AHeap.n_put (h : AHeap) (b : Nat) (o : AObj) : (h.put b o).n = h.n := rfl
@[simp] theorem AHeap.lim_put (h : AHeap) (b : Nat) (o : AObj) : (h.put b o).lim = h.lim := rfl
@[simp] theorem AHeap.n_push (h : AHeap) (o : AObj) : (h.push o).n = h.n + 1 := rfl
@[simp] theorem AHeap.lim_push (h : AHeap) (o : AObj) : (h.push o).lim = h.lim := rfl
@[simp] theorem AHeap.get_withLim (h : AHeap) (l c : Nat) : (h.withLim l).get c = h.get c := rfl
@[simp] theorem AHeap.n_withLim (h : AHeap) (l : Nat) : (h.withLim l).n = h.n := rfl
@[simp] theorem AHeap.lim_withLim (h : AHeap) (l : Nat) : (h.withLim l).lim = l := rfl

/-! ## Blocks -/

/-- The cells of an array, from base on, are these (as far as they go). -/
def CellsAt (m : Mp) (base : Nat) (c : List AV) (arr : Array Value) : Prop := ∀ i x, c[i]? = some x → ∃ v, arr[base + i]? = some v ∧ VR m x v
inductive MR (m : Mp) : List (AV × AV × Nat) → List MapEntry → Prop
  | nil : MR m [] []
  | cons (k v : AV) (b : Nat) (e : MapEntry) (l : List (AV × AV × Nat)) (r : List MapEntry) (hk : VR m k e.key) (hv : VR m v e.val) (hb : e.born = b) (h : MR m l r) :
      MR m ((k, v, b) :: l) (e :: r)

def Free (arr : Array Value) (fz : Nat × Nat) : Prop := ∀ i, i < arr.size → ¬ (fz.1 ≤ i ∧ i < fz.2)

inductive OR (m : Mp) (q : BI) (w : World) : AObj → Prop
  | cells (c : List AV) (st : ASt) (prev : List Nat) (ez : Nat) (arr : Array Value) (T : TypeId) (fz : Nat × Nat)
      (hw : w.heap[q.blk]? = some (.cells arr T fz)) (hc : CellsAt m q.base c arr)
      (hrw : st = .rw → Free arr fz ∧ q.base + q.cap * ez ≤ arr.size ∧ (ez ≠ 0 → c.length ≤ q.cap * ez) ∧ q.own = true) : OR m q w (.cells c st prev ez)
  | map (es : List (AV × AV × Nat)) (cl : Nat) (entries : Array MapEntry) (hw : w.heap[q.blk]? = some (.map entries cl)) (he : MR m es entries.toList) (ho : q.own = true) : OR m q w (.map es cl)
  | dead : OR m q w .dead

theorem CellsAt.mono {m m' : Mp} (h : m.Le m') {base : Nat} {c : List AV} {arr : Array Value} (k : CellsAt m base c arr) : CellsAt m' base c arr :=
  fun i x hx => let ⟨v, hv, hr⟩ := k i x hx; ⟨v, hv, hr.mono h⟩
theorem MR.mono {m m' : Mp} (h : m.Le m') : ∀ {l : List (AV × AV × Nat)} {r : List MapEntry}, MR m l r → MR m' l r
  | _, _, .nil => .nil
  | _, _, .cons k v b e l r hk hv hb hl => .cons k v b e l r (hk.mono h) (hv.mono h) hb (hl.mono h)
theorem OR.mono {m m' : Mp} (h : m.Le m') {q : BI} {w : World} {o : AObj} (k : OR m q w o) : OR m' q w o := by
  cases k with
  | cells c st prev ez arr T fz hw hc hrw => exact .cells c st prev ez arr T fz hw (hc.mono h) hrw
  | map es cl entries hw he ho => exact .map es cl entries hw (he.mono h) ho
  | dead => exact .dead
/-- A block that is as it was. -/
theorem OR.same {m : Mp} {q : BI} {w w' : World} {o : AObj} (k : OR m q w o) (h : w'.heap[q.blk]? = w.heap[q.blk]?) : OR m q w' o := by
  cases k with
  | cells c st prev ez arr T fz hw hc hrw => exact .cells c st prev ez arr T fz (h.trans hw) hc hrw
  | map es cl entries hw he ho => exact .map es cl entries (h.trans hw) he ho
  | dead => exact .dead

/-- What the abstract heap says of contents holds. -/
def CR (m : Mp) (h : AHeap) (w : World) : Prop := ∀ b q, m b = some q → b < h.n ∧ q.blk < w.heap.size ∧ ∃ o, h.get b = some o ∧ OR m q w o

def AObj.own : AObj → Prop
  | .cells _ .rw _ _ => True
  | .map _ _ => True
  | _ => False
def AObj.prevs : AObj → List Nat
  | .cells _ _ prev _ => prev
  | _ => []
def AObj.isSh : AObj → Prop
  | .cells _ .sh _ _ => True
  | _ => False
def AObj.len : AObj → Nat
  | .cells c _ _ _ => c.length
  | _ => 0
/-- What may be written lies apart from all else that is alive, but for what it grew out of. -/
def Sep (m : Mp) (h : AHeap) : Prop := ∀ b c qb qc ob oc, m b = some qb → m c = some qc → b ≠ c → h.get b = some ob → h.get c = some oc →
  ob.own → oc ≠ .dead → qb.blk = qc.blk → c ∈ ob.prevs ∧ oc.isSh ∧ qc.base + oc.len ≤ qb.base + ob.len
/-- Package-level variables stand where they stand. -/
def Glob (P : Program) (m : Mp) : Prop := ∀ g, g < P.globals.size → m g = some ⟨g, 0, 0, false⟩
structure HR (P : Program) (m : Mp) (h : AHeap) (w : World) : Prop where
  cr : CR m h w
  sep : Sep m h
  glob : Glob P m
  prev : ∀ b q o, m b = some q → h.get b = some o → ∀ p ∈ o.prevs, (m p).isSome = true

/-- What a run of the abstract machine leaves of the model's world: no block is gone; what is not the abstract heap's is as it was. -/
structure Chg (m : Mp) (w w' : World) : Prop where
  os : w'.os = w.os
  tape : w'.tape = w.tape
  output : w'.output = w.output
  size : w.heap.size ≤ w'.heap.size
  same : ∀ r, r < w.heap.size → (∀ b q, m b = some q → q.own = true → q.blk ≠ r) → w'.heap[r]? = w.heap[r]?
/-- New blocks only. -/
structure New (w w' : World) : Prop where
  os : w'.os = w.os
  tape : w'.tape = w.tape
  output : w'.output = w.output
  size : w.heap.size ≤ w'.heap.size
  same : ∀ r, r < w.heap.size → w'.heap[r]? = w.heap[r]?
theorem New.chg {w w' : World} (h : New w w') (m : Mp) : Chg m w w' := ⟨h.os, h.tape, h.output, h.size, fun r hr _ => h.same r hr⟩
theorem New.refl (w : World) : New w w := ⟨rfl, rfl, rfl, Nat.le_refl _, fun _ _ => rfl⟩
theorem Chg.refl (m : Mp) (w : World) : Chg m w w := (New.refl w).chg m
/-- The abstract heap's blocks are more; the new ones lie in new places, or where elder ones lay. -/
structure Grow (m m' : Mp) (n n' : Nat) (w : World) : Prop where
  le : m.Le m'
  new : ∀ b q, m' b = some q → m b = none → n ≤ b ∧ b < n' ∧ (w.heap.size ≤ q.blk ∨ ∃ c r, m c = some r ∧ r.blk = q.blk ∧ r.own = true)
  all : ∀ b, n ≤ b → b < n' → (m' b).isSome = true
theorem Grow.refl (m : Mp) (n : Nat) (w : World) : Grow m m n n w :=
  ⟨Mp.Le.refl m, fun _ _ h k => by (rw [h] at k; cases k), fun _ _ _ => by omega⟩
theorem Chg.trans {m m' : Mp} {n n' : Nat} {w w' w'' : World} (h : Chg m w w') (g : Grow m m' n n' w) (k : Chg m' w' w'') : Chg m w w'' := by
  refine ⟨k.os.trans h.os, k.tape.trans h.tape, k.output.trans h.output, Nat.le_trans h.size k.size, fun r hr hm => ?_⟩
  rw [← h.same r hr hm]
  refine k.same r (by have := h.size; omega) fun b q hb ho => ?_
  cases hmb : m b with
  | some q' =>
    have := g.le _ _ hmb
    rw [hb] at this; injection this with this; subst this
    exact hm _ _ hmb ho
  | none =>
    obtain ⟨_, _, hq | ⟨c, r', hc, he, ho⟩⟩ := g.new _ _ hb hmb
    · omega
    · rw [← he]; exact hm _ _ hc ho
theorem Grow.trans {m m' m'' : Mp} {n n' n'' : Nat} {w w' : World} (h : Grow m m' n n' w) (k : Grow m' m'' n' n'' w') (hs : w.heap.size ≤ w'.heap.size) (hn : n ≤ n') (hn' : n' ≤ n'') :
    Grow m m'' n n'' w := by
  refine ⟨h.le.trans k.le, fun b q hb hm => ?_, fun b hb hb' => ?_⟩
  · cases hm' : m' b with
    | some q' =>
      have := k.le _ _ hm'
      rw [hb] at this; injection this with this; subst this
      obtain ⟨h1, h2, h3⟩ := h.new _ _ hm' hm
      exact ⟨h1, by omega, h3⟩
    | none =>
      obtain ⟨h1, h2, h3⟩ := k.new _ _ hb hm'
      refine ⟨by omega, h2, ?_⟩
      rcases h3 with h3 | ⟨c, r, hc, he, ho⟩
      · exact .inl (by omega)
      · cases hmc : m c with
        | some r' =>
          have := h.le _ _ hmc
          rw [hc] at this; injection this with this; subst this
          exact .inr ⟨c, _, hmc, he, ho⟩
        | none =>
          obtain ⟨_, _, h5⟩ := h.new _ _ hc hmc
          rw [← he]; exact h5
  · by_cases e : b < n'
    · have h1 := h.all b hb e
      cases hm' : m' b with
      | none => rw [hm'] at h1; cases h1
      | some q => rw [k.le _ _ hm']; rfl
    · exact k.all b (by omega) hb'
end Go.Av
