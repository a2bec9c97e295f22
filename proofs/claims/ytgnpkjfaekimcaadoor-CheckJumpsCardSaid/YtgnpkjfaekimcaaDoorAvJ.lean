/- The join of the two machines with the model; arguments. -/
import Derived.Test.YtgnpkjfaekimcaaDoorAvK
import Derived.Test.YtgnpkjfaekimcaaDoorAvEnd
import Derived.Test.YtgnpkjfaekimcaaDoorAvD
import Derived.ChangeSlices
import Derived.ChangeShapes
set_option linter.unusedVariables false
set_option linter.unusedSimpArgs false
set_option linter.unusedSectionVars false
section
/- From the second machine's answer to the model's calls: arguments lie where they lie, and are only read. -/
namespace Go.Av
open Go.RowKit
/-- A heap of objects that are only read, and where they lie. -/
def mpOf (os : List (List AV × BI)) : Mp := fun b => (os[b]?).map (·.2)
def htOf : List (List AV × BI) → Nat → HT → HT
  | [], _, t => t
  | x :: l, i, t => htOf l (i + 1) (t.set i (.cells x.1 .ro [] 0))
def heapOf (os : List (List AV × BI)) : AHeap := ⟨htOf os 0 .e, os.length, 0⟩
theorem htOf_get : ∀ (l : List (List AV × BI)) (i : Nat) (t : HT) (b : Nat), (htOf l i t).get b = if i ≤ b then (match l[b - i]? with
    | some x => some (.cells x.1 .ro [] 0)
    | none => t.get b) else t.get b
  | [], i, t, b => by simp [htOf]
  | x :: l, i, t, b => by
    rw [htOf, htOf_get l (i + 1)]
    have hs : (t.set i (.cells x.1 .ro [] 0)).get b = if b = i then some (.cells x.1 .ro [] 0) else t.get b := HT.get_setF _ _ _ _ (Nat.le_refl _) _
    by_cases h : i ≤ b
    · rw [if_pos h]
      by_cases e : b = i
      · subst e
        rw [if_neg (by omega), hs, if_pos rfl]; simp
      · rw [if_pos (by omega)]
        have : b - i = (b - (i + 1)) + 1 := by omega
        rw [this, List.getElem?_cons_succ, hs, if_neg e]
    · rw [if_neg (by omega), if_neg h, hs, if_neg (by omega)]
theorem heapOf_get (os : List (List AV × BI)) (b : Nat) (x : List AV × BI) (h : os[b]? = some x) : (heapOf os).get b = some (.cells x.1 .ro [] 0) := by
  show (htOf os 0 .e).get b = _
  rw [htOf_get]; simp [h]
/-- What an object that is only read says of the world. -/
structure RoOk (m : Mp) (w : World) (x : List AV × BI) : Prop where
  own : x.2.own = false
  cells : ∃ arr T fz, w.heap[x.2.blk]? = some (.cells arr T fz) ∧ CellsAt m x.2.base x.1 arr
theorem hr_heapOf {P : Program} (hg : P.globals.size = 0) {w : World} {os : List (List AV × BI)} (h : ∀ x ∈ os, RoOk (mpOf os) w x) : HR P (mpOf os) (heapOf os) w := by
  have key : ∀ b q, mpOf os b = some q → ∃ x, os[b]? = some x ∧ x.2 = q := by
    intro b q hb
    unfold mpOf at hb
    cases e : os[b]? with
    | none => rw [e] at hb; cases hb
    | some x => rw [e] at hb; exact ⟨x, rfl, by simpa using hb⟩
  refine ⟨fun b q hb => ?_, fun b c qb qc ob oc hb hc hne hgb hgc hown => ?_, fun g hgg => ?_, fun b q o hb hgo p hp => ?_⟩
  · obtain ⟨x, hx, rfl⟩ := key b q hb
    obtain ⟨ho, arr, T, fz, hw, hc⟩ := h x (List.mem_of_getElem? hx)
    refine ⟨(List.getElem?_eq_some_iff.1 hx).1, (Array.getElem?_eq_some_iff.1 hw).1, _, heapOf_get os b x hx, .cells _ _ _ _ arr T fz hw hc (fun e => by cases e)⟩
  · obtain ⟨x, hx, rfl⟩ := key b qb hb
    rw [heapOf_get os b x hx] at hgb
    injection hgb with hgb; subst hgb
    exact hown.elim
  · omega
  · obtain ⟨x, hx, rfl⟩ := key b q hb
    rw [heapOf_get os b x hx] at hgo
    injection hgo with hgo; subst hgo
    simp [AObj.prevs] at hp
/-- What the second machine knows of such a heap. -/
def cxOf (os : List (List AV × BI)) : Cx := ⟨fun _ => none, fun _ => 0, [], fun _ => none, fun _ => True, heapOf os⟩
theorem prel_cxOf (os : List (List AV × BI)) : PRel (cxOf os) .empty := by
  refine ⟨rfl, fun b q h => ?_, fun b cs ez h => ?_, fun b es cl h => ?_, fun r v x ez h _ => ?_, fun B o h => ?_, fun B b h => ?_, fun B r h => ?_, fun B h => trivial, Nat.zero_le _⟩
  · cases h
  · have h' : PObj.dead = .cells cs ez := h; cases h'
  · have h' : PObj.dead = .map es cl := h; cases h'
  · have h' : Root.gone = .live v x ez := h; cases h'
  · cases h
  · cases h
  · cases h
theorem noFr_cxOf (os : List (List AV × BI)) : NoFr (cxOf os) := fun B i h => by cases h
/-- THE JOIN: what the second machine answers, the model's call returns; old blocks stay as they were. -/
theorem join {P : Program} {pf : Nat → Option PFunc} {fns : Nat → Option AFunc} (hf : FnsOk P fns) (hpf : ∀ f F, pf f = some F → fns f = some F.era) (hmix : P.follows .mixedOrders = true) (hg : P.globals.size = 0)
    {os : List (List AV × BI)} {w : World} (hos : ∀ x ∈ os, RoOk (mpOf os) w x) {f : Nat} {pas : List PV} {aas : List AV} {cargs : Array Value} (hp : VRelL (cxOf os) pas aas) (hv : VRL (mpOf os) aas cargs.toList)
    {b : Bool} {σ : PH} (e : PC pf f pas .empty = some (.b b, σ)) : Calls P f cargs w fun e w' => e = .returned (.bool b) ∧ Below w.heap.size w w' := by
  obtain ⟨n, hn⟩ := PC_inv e
  obtain ⟨a, X', ha, _, _, _, hva⟩ := prun_rel hpf n hn (prel_cxOf os) (noFr_cxOf os) hp
  cases hva
  obtain ⟨_, hc⟩ := acall_sound hf hmix n f aas (heapOf os) _ _ ha
  refine (hc _ w cargs (hr_heapOf hg hos) hv).mono fun e w' ⟨cv, m', he', hact⟩ => ?_
  have hvr := hact.vr
  cases hvr
  refine ⟨he', hact.chg.os, hact.chg.tape, hact.chg.output, hact.chg.size, fun k hk => hact.chg.same k hk fun c q hq hown => ?_⟩
  unfold mpOf at hq
  cases hx : os[c]? with
  | none => rw [hx] at hq; cases hq
  | some x =>
    rw [hx] at hq
    have : x.2 = q := by simpa using hq
    subst this
    rw [(hos x (List.mem_of_getElem? hx)).own] at hown
    cases hown
theorem clo_b_inv {k : Nat} {σ σ' : PH} {v : PV} {b : Bool} (h : clo k σ v = some (.b b, σ')) : v = .b b := by
  cases k with
  | zero => cases h
  | succ k =>
    unfold clo at h
    split at h
    all_goals (try (repeat' split at h)) <;> first | (injection h with h; injection h with h1 h2; first | exact h1 | (cases h1; done) | (cases h1; rfl)) | (cases h; try rfl)
/-- A function that answers a bool: what it gave is what it had. -/
theorem iso_bool {call : PCall} {f : Nat} {as : List PV} {b : Bool} (e : iso call f as = some (.b b)) : ∃ σ, call f as .empty = some (.b b, σ) := by
  unfold iso at e
  split at e
  · rename_i v σ h
    split at e
    · rename_i y σ' h2
      injection e with e; subst e
      refine ⟨σ, ?_⟩
      rw [h]
      have : v = .b b := by
        unfold giv at h2
        split at h2
        · split at h2 <;> cases h2
        · unfold giv1 at h2
          split at h2
          all_goals first | exact clo_b_inv h2 | ((repeat' split at h2) <;> first | (injection h2 with h2; injection h2 with h3 h4; cases h3) | cases h2)
      rw [this]
    · cases e
  · cases e
end Go.Av
end
section
/- Arguments that are rows of integers. -/
namespace Go.Av
open Go.ChangeShapes Go.WideShapes Go.ChangeAt Go.RowKit
theorem mpOf_new (os : List (List AV × BI)) (x : List AV × BI) : mpOf (os ++ [x]) os.length = some x.2 := by simp [mpOf]
theorem flatI (l : List Int) : l.flatMap encI = l.map (PV.i .i64) := by
  induction l with
  | nil => rfl
  | cons a l ih => simp [encI, ih]
theorem rel_ints (X : Cx) : ∀ l : List Int, VRelL X (l.map (PV.i .i64)) (l.map (AV.i .i64))
  | [] => .nil
  | a :: l => .cons _ _ _ _ (.i _ _) (rel_ints X l)
theorem ok_ints : ∀ l : List Int, okCells (l.map (AV.i .i64)) = true
  | [] => rfl
  | a :: l => by simp [okCells, AV.okCell, ok_ints l]
theorem clo_ints : ∀ l : List Int, cloL false (l.map (PV.i .i64)) = true
  | [] => rfl
  | a :: l => by simp [cloL, isClo, clo_ints l]
theorem cell_at {w : World} {a : Addr} {i : Nat} {v : Value} (h : w.cell? (a.add i) = some v) : ∃ arr T fz, w.heap[a.block]? = some (.cells arr T fz) ∧ arr[a.off + i]? = some v := by
  unfold World.cell? at h
  have hb : (a.add i).block = a.block := by unfold Addr.add; split <;> rfl
  have ho : (a.add i).off = a.off + i := by
    unfold Addr.add; split
    · rename_i e; subst e; rfl
    · rfl
  rw [hb, ho] at h
  split at h
  · rename_i c T fz e
    split at h
    · cases h
    · exact ⟨c, T, fz, e, h⟩
  · cases h
/-- A row of integers: what the machines know it as. -/
theorem arg_ints {H : Type} {enc : TypeId × Value → H} {P : Program} {w : World} {base b0 : Nat} {spare : Nat → Bool} {held : Bool} {r : Reach} {t e : TypeId} {v : Value} {d : DataW H} {ps : List MemPlace}
    (ht : P.underlying t = some (.slice e)) (he : P.underlying e = some (.int .i64)) (hc : P.cellsOf e = 1) (hval : Value.okWide P w r b0 t v) (hd : DataW.Trod enc P w base spare held t v d ps) :
    ∃ ns : List Int, ∀ os : List (List AV × BI), ∃ (nw : List (List AV × BI)) (a : AV), (∀ x ∈ nw, RoOk (mpOf (os ++ nw)) w x) ∧ VR (mpOf (os ++ nw)) a v ∧ VRel (cxOf (os ++ nw)) (.ls (.v false false) ns.length (ns.flatMap encI)) a := by
  obtain ⟨fuel, hf⟩ := hd
  rcases open_ints ht he hc hf with ⟨hcs, _⟩ | ⟨a, len, cap, zs, hcs, _, hl, _, hzl, _, hcell, _⟩
  · have hv : v = .slice none 0 0 := by
      cases v <;> simp [Value.cells] at hcs
      · rename_i x y z; obtain ⟨rfl, rfl, rfl⟩ := hcs; rfl
      · rename_i x; simp [Value.okWide, ht, Cell.okWide, Cell.ok] at hval
    subst hv
    exact ⟨[], fun os => ⟨[], .nils, fun x hx => (by cases hx), .nils, .ls0 _ _ _ trivial⟩⟩
  · have hv : v = .slice (some a) len cap := by
      cases v <;> simp [Value.cells] at hcs
      · rename_i x y z; obtain ⟨rfl, rfl, rfl⟩ := hcs; rfl
      · rename_i x; simp [Value.okWide, ht, Cell.okWide, Cell.ok] at hval
    subst hv
    have hhas : w.has P r b0 a e cap := by
      simp [Value.okWide, ht, Cell.okWide, Cell.ok] at hval
      exact hval.2.2
    obtain ⟨_, hspot, row, cells, hsh, _⟩ := hhas
    obtain ⟨arr, T, fz, hw⟩ : ∃ arr T fz, w.heap[a.block]? = some (.cells arr T fz) := by
      unfold World.shape? at hsh
      split at hsh
      · rename_i c el fz e; exact ⟨c, el, fz, e⟩
      · cases hsh
    have hlen : len ≤ zs.length := by rw [hzl]; split <;> omega
    let ns := zs.take len
    have hns : ns.length = len := by simp [ns]; omega
    have hro : ∀ m, RoOk m w (ns.map (AV.i .i64), ⟨a.block, a.off, 0, false⟩) := by
      intro m
      refine ⟨rfl, arr, T, fz, hw, fun i x hx => ?_⟩
      have hi : i < ns.length := by
        rcases Nat.lt_or_ge i ns.length with h | h
        · exact h
        · rw [List.getElem?_eq_none (by simpa using h)] at hx; cases hx
      obtain ⟨arr', T', fz', hw', hv'⟩ := cell_at (hcell i (by omega))
      rw [hw] at hw'; injection hw' with hw'; injection hw' with h1 h2 h3; subst h1
      refine ⟨_, hv', ?_⟩
      have : x = .i .i64 (zs.getD i 0) := by
        have h2 : (ns.map (AV.i .i64))[i]? = some (.i .i64 (zs.getD i 0)) := by
          simp [ns, List.getElem?_take, show i < len by omega, show i < zs.length by omega, List.getD]
        rw [h2] at hx; injection hx with hx; exact hx.symm
      rw [this]; exact .i _ _
    have hsl : (Value.slice (some a) len cap) = .slice (some ⟨a.block, a.off + 0, none⟩) len cap := by
      have : a = ⟨a.block, a.off, none⟩ := by cases a; simp at hspot; subst hspot; rfl
      exact congrArg (fun x => Value.slice (some x) len cap) this
    refine ⟨ns, fun os => ⟨[(ns.map (AV.i .i64), ⟨a.block, a.off, 0, false⟩)], .sl os.length 0 len (.k cap), fun x hx => ?_, ?_, ?_⟩⟩
    · have : x = (ns.map (AV.i .i64), ⟨a.block, a.off, 0, false⟩) := by simpa using hx
      subst this; exact hro _
    · rw [hsl]
      exact VR.sl os.length 0 len (.k cap) ⟨a.block, a.off, 0, false⟩ _ (mpOf_new _ _) (by simpa [capOf] using hl) (.inl rfl)
    · rw [flatI, hns]
      refine .lsv _ _ _ _ _ _ _ ?_ (fun h => by cases h) (fun k hk => by cases hk; exact hl)
      refine .v _ _ _ (ns.map (AV.i .i64)) os.length 0 (rel_ints _ _) ⟨by simp [cxOf, heapOf], ok_ints _, ns.map (AV.i .i64), .ro, [], 0, heapOf_get _ _ (ns.map (AV.i .i64), ⟨a.block, a.off, 0, false⟩) (by simp), ?_⟩ rfl (fun _ => trivial) (clo_ints _)
      rw [sub_eq]; simp
/-! ## Arguments, one behind the other -/
theorem mpOf_le (os nw : List (List AV × BI)) : (mpOf os).Le (mpOf (os ++ nw)) := by
  intro b q h
  unfold mpOf at h ⊢
  cases e : os[b]? with
  | none => rw [e] at h; cases h
  | some x => rw [List.getElem?_append_left (List.getElem?_eq_some_iff.1 e).1, e]; rw [e] at h; exact h
theorem cxOf_mv (os nw : List (List AV × BI)) : Mv false (cxOf os) (cxOf (os ++ nw)) := by
  intro B ho hB _
  have hB : B < os.length := hB
  obtain ⟨x, hx⟩ : ∃ x, os[B]? = some x := ⟨_, List.getElem?_eq_getElem hB⟩
  refine ⟨rfl, ?_, by show B < (os ++ nw).length; simp; omega, fun _ => trivial⟩
  show (heapOf (os ++ nw)).get B = (heapOf os).get B
  rw [heapOf_get _ _ x (by rw [List.getElem?_append_left hB, hx]), heapOf_get _ _ x hx]
theorem RoOk.mono {m m' : Mp} {w : World} {x : List AV × BI} (h : RoOk m w x) (k : m.Le m') : RoOk m' w x := by
  obtain ⟨h1, arr, T, fz, h2, h3⟩ := h
  exact ⟨h1, arr, T, fz, h2, h3.mono k⟩
/-- A value that the machines know as this. -/
def ArgOk (w : World) (v : Value) (pv : PV) : Prop := isClo false pv = true ∧ ∀ os, ∃ nw a, (∀ x ∈ nw, RoOk (mpOf (os ++ nw)) w x) ∧ VR (mpOf (os ++ nw)) a v ∧ VRel (cxOf (os ++ nw)) pv a
def ArgsOk (w : World) (vs : List Value) (pvs : List PV) : Prop := cloL false pvs = true ∧ ∀ os, ∃ nw as, (∀ x ∈ nw, RoOk (mpOf (os ++ nw)) w x) ∧ VRL (mpOf (os ++ nw)) as vs ∧ VRelL (cxOf (os ++ nw)) pvs as
theorem args_nil (w : World) : ArgsOk w [] [] := ⟨rfl, fun os => ⟨[], [], fun x hx => (by cases hx), .nil, .nil⟩⟩
theorem args_cons {w : World} {v : Value} {pv : PV} {vs : List Value} {pvs : List PV} (h : ArgOk w v pv) (hl : ArgsOk w vs pvs) : ArgsOk w (v :: vs) (pv :: pvs) := by
  obtain ⟨hc, h⟩ := h
  obtain ⟨hcl, hl⟩ := hl
  refine ⟨by rw [cloL, hc, hcl]; rfl, fun os => ?_⟩
  obtain ⟨nw, a, h1, h2, h3⟩ := h os
  obtain ⟨nw', as, k1, k2, k3⟩ := hl (os ++ nw)
  refine ⟨nw ++ nw', a :: as, fun x hx => ?_, ?_, ?_⟩ <;> rw [← List.append_assoc]
  · rcases List.mem_append.1 hx with hx | hx
    · exact (h1 x hx).mono (mpOf_le _ _)
    · exact k1 x hx
  · exact .cons _ _ _ _ (h2.mono (mpOf_le _ _)) k2
  · exact .cons _ _ _ _ (VRel.move (cxOf_mv _ _) h3 hc) k3
theorem arg_int (w : World) (n : Int) : ArgOk w (.int .i64 n) (.i .i64 n) := ⟨rfl, fun os => ⟨[], _, fun x hx => (by cases hx), .i _ _, .i _ _⟩⟩
theorem arg_bool (w : World) (b : Bool) : ArgOk w (.bool b) (.b b) := ⟨rfl, fun os => ⟨[], _, fun x hx => (by cases hx), .b _, .b _⟩⟩
theorem arg_row {H : Type} {enc : TypeId × Value → H} {P : Program} {w : World} {base b0 : Nat} {spare : Nat → Bool} {held : Bool} {r : Reach} {t e : TypeId} {v : Value} {d : DataW H} {ps : List MemPlace}
    (ht : P.underlying t = some (.slice e)) (he : P.underlying e = some (.int .i64)) (hc : P.cellsOf e = 1) (hval : Value.okWide P w r b0 t v) (hd : DataW.Trod enc P w base spare held t v d ps) :
    ∃ ns : List Int, ArgOk w v (.ls (.v false false) ns.length (ns.flatMap encI)) := by
  obtain ⟨ns, h⟩ := arg_ints ht he hc hval hd
  exact ⟨ns, rfl, h⟩
/-- The join, of arguments that are known so. -/
theorem join_args {P : Program} {pf : Nat → Option PFunc} {fns : Nat → Option AFunc} (hf : FnsOk P fns) (hpf : ∀ f F, pf f = some F → fns f = some F.era) (hmix : P.follows .mixedOrders = true) (hg : P.globals.size = 0)
    {w : World} {f : Nat} {pas : List PV} {cargs : Array Value} (ha : ArgsOk w cargs.toList pas) {b : Bool} (e : iso (PC pf) f pas = some (.b b)) : Calls P f cargs w fun e w' => e = .returned (.bool b) ∧ Below w.heap.size w w' := by
  obtain ⟨σ, h⟩ := iso_bool e
  obtain ⟨nw, as, h1, h2, h3⟩ := ha.2 []
  exact join hf hpf hmix hg h1 h3 h2 h
end Go.Av
end
