/- Contracts of the functions that the law reaches. -/
import Derived.Test.YtgnpkjfaekimcaaDoorCon1
import Derived.KernelRfl
set_option linter.unusedVariables false
set_option linter.unusedSimpArgs false
set_option linter.unusedSectionVars false
section
/- Contracts (seat c6): maps; two ways come together; what is next. -/
namespace Go.Av
def encM {α : Type} (f : α → PV) : List (Int × α) → Nat → List (PV × PV × Nat)
  | [], _ => []
  | (k, v) :: m, j => (.i .i64 k, f v, j) :: encM f m (j + 1)
theorem key_i (a b : Int) : pkeyEq (.sc 0) (.i .i64 a) (.i .i64 b) = some (decide (a = b)) := by
  simp [pkeyEq, pleafEq, leafEq]
theorem find_none {α : Type} (f : α → PV) (k : Int) : ∀ (m : List (Int × α)) (j i : Nat), mget m k = none → pmfind (.sc 0) (.i .i64 k) (encM f m j) i = some none
  | [], _, _, _ => rfl
  | (k', v) :: m, j, i, h => by
    unfold mget at h
    by_cases e : k = k'
    · rw [if_pos e] at h; cases h
    · rw [if_neg e] at h
      simp only [encM, pmfind, key_i, e, decide_false]
      exact find_none f k m (j + 1) (i + 1) h
theorem find_some {α : Type} (f : α → PV) (k : Int) (w : α) : ∀ (m : List (Int × α)) (j i : Nat) {v : α}, mget m k = some v → ∃ a b, pmfind (.sc 0) (.i .i64 k) (encM f m j) i = some (some (i + a, f v, b)) ∧ pmset (encM f m j) a (f w) = encM f (mput m k w) j ∧ (mput m k w).length = m.length
  | [], _, _, _, h => by cases h
  | (k', v') :: m, j, i, v, h => by
    unfold mget at h
    by_cases e : k = k'
    · rw [if_pos e] at h; injection h with h; subst h
      refine ⟨0, j, ?_, ?_, ?_⟩
      · simp only [encM, pmfind, key_i, e, decide_true]; rfl
      · simp only [encM, pmset, mput, if_pos e]
      · simp only [mput, if_pos e, List.length_cons]
    · rw [if_neg e] at h
      obtain ⟨a, b, h1, h2, h3⟩ := find_some f k w m (j + 1) (i + 1) h
      refine ⟨a + 1, b, ?_, ?_, ?_⟩
      · simp only [encM, pmfind, key_i, e, decide_false]
        rw [h1, show i + 1 + a = i + (a + 1) by omega]
      · simp only [encM, pmset, mput, if_neg e, h2]
      · simp only [mput, if_neg e, List.length_cons, h3]
theorem put_none {α : Type} (f : α → PV) (k : Int) (w : α) : ∀ (m : List (Int × α)) (j : Nat), mget m k = none → encM f m j ++ [(.i .i64 k, f w, j + m.length)] = encM f (mput m k w) j ∧ (mput m k w).length = m.length + 1
  | [], _, _ => ⟨rfl, rfl⟩
  | (k', v) :: m, j, h => by
    unfold mget at h
    by_cases e : k = k'
    · rw [if_pos e] at h; cases h
    · rw [if_neg e] at h
      obtain ⟨h1, h2⟩ := put_none f k w m (j + 1) h
      refine ⟨?_, by simp only [mput, if_neg e, List.length_cons, h2]⟩
      simp only [encM, mput, if_neg e, ← h1, List.length_cons, List.cons_append]
      rw [show j + (m.length + 1) = j + 1 + m.length by omega]
theorem upd_ok {α : Type} (f : α → PV) (σ : PH) (b : Nat) (m : List (Int × α)) (k : Int) (w : α) (v : PV) (hv : v = f w) (h : σ.get b = .map (encM f m 0) m.length) (hl : σ.lim = 0) :
    pMupd σ (.sc 0) (.m b) (.i .i64 k) v = some (σ.put b (.map (encM f (mput m k w) 0) (mput m k w).length)) := by
  subst hv
  have hk : pokKey (.sc 0) (.i .i64 k) = true := by simp [pokKey, key_i]
  have hb : Nat.blt b σ.lim = false := by rw [hl]; simp
  unfold pMupd
  simp only [hk, h, hb]
  cases hg : mget m k with
  | none =>
    obtain ⟨h1, h2⟩ := put_none f k w m 0 hg
    simp only [find_none f k m 0 0 hg]
    rw [h2, ← h1, Nat.zero_add]
  | some v =>
    obtain ⟨a, c, h1, h2, h3⟩ := find_some f k w m 0 0 hg
    simp only [h1, Nat.zero_add, h2, h3]
theorem look_ok {α : Type} (f : α → PV) (σ : PH) (b c : Nat) (m : List (Int × α)) (k : Int) (z : PV) (ok : Bool) (h : σ.get b = .map (encM f m 0) c) :
    pLook σ (.sc 0) z ok (.m b) (.i .i64 k) = some (plookOut ok (((mget m k).map f).getD z) (mget m k).isSome) := by
  have hk : pokKey (.sc 0) (.i .i64 k) = true := by simp [pokKey, key_i]
  unfold pLook
  simp only [hk, h]
  cases hg : mget m k with
  | none => simp only [find_none f k m 0 0 hg]; rfl
  | some v =>
    obtain ⟨a, c, h1, _⟩ := find_some f k v m 0 0 hg
    simp only [h1]; rfl
def opV (o : KOp) : PV := .agg o.enc
def atV (x : Bool × List Int) : PV := .ls (.v false x.1) x.2.length (x.2.flatMap encI)
@[simp] theorem a1_b (md : Mode) (σ : PH) (x : Bool) : adj1 md σ (.b x) = some (.b x, σ) := rfl
@[simp] theorem a1_i (md : Mode) (σ : PH) (k : IntKind) (x : Int) : adj1 md σ (.i k x) = some (.i k x, σ) := rfl
@[simp] theorem a1_p (md : Mode) (σ : PH) (x y : Nat) : adj1 md σ (.p x y) = some (.p x y, σ) := rfl
@[simp] theorem a1_m (md : Mode) (σ : PH) (x : Nat) : adj1 md σ (.m x) = some (.m x, σ) := rfl
@[simp] theorem a1_agg (md : Mode) (σ : PH) (x : List PV) : adj1 md σ (.agg x) = some (.agg x, σ) := rfl
@[simp] theorem a1_pls (md : Mode) (σ : PH) (t : Tag) (x : List PV) (o : Nat) : adj1 md σ (.pls t x o) = some (.pls t x o, σ) := rfl
@[simp] theorem a1_ls (md : Mode) (σ : PH) (b : Bool) (n : Nat) (x : List PV) : adj1 md σ (.ls (.v b false) n x) = some (.ls (.v b false) n x, σ) := rfl
@[simp] theorem a1_nil (σ : PH) (b : Bool) : adj1 .d σ (.ls (.v b true) 0 []) = some (.ls (.v b true) 0 [], σ) := rfl
@[simp high] theorem adj_at (σ : PH) (x : Bool × List Int) : adj1 .d σ (atV x) = some (atV x, σ) := by
  obtain ⟨t, l⟩ := x
  cases l with
  | nil => cases t <;> rfl
  | cons a l => cases t <;> rfl
/-- A value that is no tuple. -/
def noTup : PV → Bool
  | .tup _ => false
  | _ => true
theorem adj_one {md : Mode} {σ : PH} {v : PV} (h : noTup v = true) : adj md σ v = adj1 md σ v := by
  cases v <;> first | rfl | cases h
@[simp] theorem d_b (md : Mode) (σ : PH) (x : Bool) : adj md σ (.b x) = some (.b x, σ) := rfl
@[simp] theorem d_i (md : Mode) (σ : PH) (k : IntKind) (x : Int) : adj md σ (.i k x) = some (.i k x, σ) := rfl
@[simp] theorem d_p (md : Mode) (σ : PH) (x y : Nat) : adj md σ (.p x y) = some (.p x y, σ) := rfl
@[simp] theorem d_m (md : Mode) (σ : PH) (x : Nat) : adj md σ (.m x) = some (.m x, σ) := rfl
@[simp] theorem d_agg (md : Mode) (σ : PH) (x : List PV) : adj md σ (.agg x) = some (.agg x, σ) := rfl
@[simp] theorem d_pls (md : Mode) (σ : PH) (t : Tag) (x : List PV) (o : Nat) : adj md σ (.pls t x o) = some (.pls t x o, σ) := rfl
@[simp] theorem d_ls (md : Mode) (σ : PH) (b : Bool) (n : Nat) (x : List PV) : adj md σ (.ls (.v b false) n x) = some (.ls (.v b false) n x, σ) := rfl
@[simp] theorem d_nil (σ : PH) (b : Bool) : adj .d σ (.ls (.v b true) 0 []) = some (.ls (.v b true) 0 [], σ) := rfl
@[simp] theorem d_at (σ : PH) (x : Bool × List Int) : adj .d σ (atV x) = some (atV x, σ) := adj_at σ x
theorem d_t0 (md : Mode) (σ : PH) : adj md σ (.tup []) = some (.tup [], σ) := rfl
theorem d_t1 (md : Mode) (σ : PH) (x : PV) : adj md σ (.tup [x]) = (match adj1 md σ x with
  | some (y, s) => some (.tup [y], s)
  | none => none) := by
  unfold adj; simp only [mapC]
  cases adj1 md σ x <;> rfl
theorem d_t2 (md : Mode) (σ : PH) (x : PV) (b : Bool) : adj md σ (.tup [x, .b b]) = (match adj1 md σ x with
  | some (y, s) => some (.tup [y, .b b], s)
  | none => none) := by
  unfold adj; simp only [mapC, a1_b]
  cases adj1 md σ x <;> rfl
theorem len_at (σ : PH) (x : Bool × List Int) : pLen σ 1 (atV x) = some (.i .i64 (x.2.length : Nat)) := rfl
theorem len_v (σ : PH) (b t : Bool) (n : Nat) (x : List PV) : pLen σ 1 (.ls (.v b t) n x) = some (.i .i64 (n : Nat)) := rfl
theorem lend_at (σ : PH) (x : Bool × List Int) : lend σ (atV x) = some (.ls (.v false false) x.2.length (x.2.flatMap encI)) := rfl
theorem lend_v (σ : PH) (b t : Bool) (n : Nat) (x : List PV) : lend σ (.ls (.v b t) n x) = some (.ls (.v b false) n x) := rfl
@[simp high] theorem adj_op (σ : PH) (o : KOp) : adj1 .d σ (opV o) = some (opV o, σ) := rfl
/-- The heap while one goes through a function: g is what was left behind. -/
def hW (I P : List PV) (ops : List (Int × KOp)) (w : KW) (size : Nat) (g : List PObj) : PH :=
  ⟨.cells I 0 :: .cells P 0 :: .map (encM opV ops 0) ops.length :: .map (encM atV w.ats 0) w.ats.length :: .map (encM PV.b w.dones 0) w.dones.length :: .cells [.p 1 0, .i .i64 (size : Nat), .m 2, .m 3, .m 4, .i .i64 w.high] 0 :: g, 0, [], 0⟩
theorem join_ok (I P : List PV) (ops : List (Int × KOp)) (w : KW) (size : Nat) (g : List PObj) (k : Int) (s : List Int) (hs : s.length ≤ 1000) :
    PC pfs 39 [.p 5 0, .i .i64 k, vI s] (hW I P ops w size g) = some (.i .i64 (joinK w.ats k s).2, hW I P ops ⟨(joinK w.ats k s).1, w.dones, w.high⟩ size g) := by
  rw [PC_eq (F := pf39) rfl]
  have hl := look_ok atV (hW I P ops w size g) 3 w.ats.length w.ats k nil true rfl
  have hu := upd_ok atV (hW I P ops w size g) 3 w.ats k (false, s) (vI s) rfl rfl rfl
  simp only [hW, vI, nil] at hl hu ⊢
  unfold joinK
  cases hg : mget w.ats k with
  | none =>
    rw [hg] at hl
    simp [plookOut] at hl hu
    simp [-prunOps, pf39, hl, hu]
  | some v =>
    rw [hg] at hl
    obtain ⟨t, was⟩ := v
    have he := equal_ok false false was s
    simp [plookOut] at hl
    by_cases h1 : was.length = s.length
    · have c1 : (was.length : Int) = (s.length : Int) := by omega
      have he := he (by omega)
      rw [h1] at he
      by_cases h2 : was = s
      · simp [h2] at he
        simp [-prunOps, -adj, -adj1, -pLen, -lend, d_t0, d_t2, len_at, len_v, lend_at, lend_v, pf39, hl, he, h2]
      · simp [h2] at he
        simp [-prunOps, -adj, -adj1, -pLen, -lend, d_t0, d_t2, len_at, len_v, lend_at, lend_v, pf39, hl, he, h1, h2]
    · have c1 : ¬ ((was.length : Int) = (s.length : Int)) := by omega
      simp [-prunOps, -adj, -adj1, -pLen, -lend, d_t0, d_t2, len_at, len_v, lend_at, lend_v, pf39, hl, h1, c1]
theorem next_none (w : KW) : ∀ (n p : Nat), (∀ j, p ≤ j → j < p + n → readyK w j = false) → nextK w n p = none
  | 0, _, _ => rfl
  | n + 1, p, h => by
    unfold nextK
    rw [h p (Nat.le_refl _) (by omega)]
    simp only [Bool.false_eq_true, if_false]
    exact next_none w n (p + 1) fun j a b => h j (by omega) (by omega)
theorem next_some (w : KW) : ∀ (n p i : Nat), p ≤ i → i < p + n → readyK w i = true → (∀ j, p ≤ j → j < i → readyK w j = false) → nextK w n p = some i
  | 0, p, i, a, b, _, _ => by omega
  | n + 1, p, i, a, b, hi, hj => by
    unfold nextK
    by_cases e : p = i
    · subst e; rw [if_pos hi]
    · rw [hj p (Nat.le_refl _) (by omega)]
      simp only [Bool.false_eq_true, if_false]
      exact next_some w n (p + 1) i (by omega) (by omega) hi fun j c d => hj j (by omega) d
def stX20 (I P : List PV) (ops : List (Int × KOp)) (w : KW) (size : Nat) (g : List PObj) (v1 v2 : PV) (i : Nat) (t : PV × PV × PV × PV) : PSt := ⟨[.p 5 0, v1, v2, t.1, t.2.1, .i .i64 (size : Nat), .i .i64 (i : Nat), t.2.2.1, t.2.2.2], hW I P ops w size g⟩
theorem next_ok (I P : List PV) (ops : List (Int × KOp)) (w : KW) (size : Nat) (hsz : size ≤ 1000000) (g : List PObj) :
    PC pfs 20 [.p 5 0] (hW I P ops w size g) = some (match nextK w size 0 with | some p => .tup [.i .i64 (p : Nat), .b true] | none => .tup [.i .i64 0, .b false], hW I P ops w size g) := by
  rw [PC_eq (F := pf20) rfl]
  have key := @for_find (pdenL (PC pfs) lp20_1) (PV × PV × PV × PV) 0 (stX20 I P ops w size g (.i .i64 0) (.b false)) (stX20 I P ops w size g (.i .i64 0) (.b false) size) (fun i => readyK w i = true) (fun i t => stX20 I P ops w size g (.i .i64 (i : Nat)) (.b true) i t) size ?_ ?_ ?_ (.und, .und, .und, .und)
  · rcases key with ⟨i, hi, hp, hj, t', h⟩ | ⟨hj, t', h⟩
    · rw [next_some w size 0 i (by omega) (by omega) hp fun j _ b => by simpa using hj j b]
      simp [stX20, hW] at h
      simp [-prunOps, pf20, h, hW]
    · rw [next_none w size 0 fun j _ b => by simpa using hj j (by omega)]
      simp [stX20, hW] at h
      simp [-prunOps, pf20, h, hW]
  · intro i hi hp t
    have hl := look_ok atV (hW I P ops w size g) 3 w.ats.length w.ats i nil true rfl
    have hd := look_ok PV.b (hW I P ops w size g) 4 w.dones.length w.dones i (.b false) false rfl
    simp only [hW, nil] at hl hd
    unfold readyK at hp
    cases ha : mget w.ats (i : Int) with
    | none => rw [ha] at hp; simp at hp
    | some v =>
      rw [ha] at hl
      simp only [plookOut] at hl hd
      refine ⟨(.i .i64 (i : Nat), .b true, .b true, .b true), ?_⟩
      cases hdd : mget w.dones (i : Int) with
      | none =>
        rw [hdd] at hd
        simp at hl hd
        simp [-prunOps, -adj, -adj1, d_t0, d_t2, stX20, lp20_1, hW, hi, hl, hd]
      | some y =>
        rw [hdd, ha] at hp
        rw [hdd] at hd
        simp at hp
        subst hp
        simp at hl hd
        simp [-prunOps, -adj, -adj1, d_t0, d_t2, stX20, lp20_1, hW, hi, hl, hd]
  · intro i hi hp t
    have hl := look_ok atV (hW I P ops w size g) 3 w.ats.length w.ats i nil true rfl
    have hd := look_ok PV.b (hW I P ops w size g) 4 w.dones.length w.dones i (.b false) false rfl
    simp only [hW, nil] at hl hd
    unfold readyK at hp
    cases ha : mget w.ats (i : Int) with
    | none =>
      rw [ha] at hl
      simp only [plookOut] at hl hd
      refine ⟨(.i .i64 (i : Nat), .b false, .b true, .b false), ?_⟩
      simp at hl hd
      simp [-prunOps, -adj, -adj1, d_t0, d_t2, stX20, lp20_1, hW, hi, hl, awrap_nat1 (n := i) (by omega)]
    | some v =>
      rw [ha] at hl
      simp only [plookOut] at hl hd
      refine ⟨(.i .i64 (i : Nat), .b true, .b true, .b false), ?_⟩
      cases hdd : mget w.dones (i : Int) with
      | none => rw [hdd, ha] at hp; simp at hp
      | some y =>
        rw [hdd, ha] at hp
        rw [hdd] at hd
        simp at hp
        subst hp
        simp at hl hd
        simp [-prunOps, -adj, -adj1, d_t0, d_t2, stX20, lp20_1, hW, hi, hl, hd, awrap_nat1 (n := i) (by omega)]
  · intro t
    refine ⟨(t.1, t.2.1, .b false, t.2.2.2), ?_⟩
    simp [-prunOps, -adj, -adj1, d_t0, d_t2, stX20, lp20_1, hW]
end Go.Av
end
section
/- Contracts (seat c6): one instruction is gone through. -/
namespace Go.Av
theorem on_le (o : KOp) : (onK o).length ≤ 2 := by
  unfold onK
  repeat' split
  all_goals simp
def stT (v4 : PV) (I P : List PV) (ops : List (Int × KOp)) (w : KW) (m : List (Int × (Bool × List Int))) (size : Nat) (g : List PObj) (k : Int) (v3 : PV) (t : List Int) (v6 v10 v11 : PV) (to : List Int) (v2 : Int) (i : Nat) (u : PV × PV × PV × PV) : PSt :=
  ⟨[.p 5 0, .i .i64 k, .i .i64 v2, v3, v4, vI t, v6, vI to, u.1, u.2.1, v10, v11, vI to, .i .i64 (to.length : Nat), .i .i64 (i : Nat), u.2.2.1, u.2.2.2], hW I P ops ⟨m, w.dones, w.high⟩ size g⟩
theorem joins_loop (v4 : PV) (I P : List PV) (ops : List (Int × KOp)) (w : KW) (size : Nat) (g : List PObj) (k : Int) (v3 : PV) (t : List Int) (ht : t.length ≤ 1000) (v6 v10 v11 : PV) (to : List Int) (hto : to.length ≤ 1000) :
    ∀ (r : List Int) (m : List (Int × (Bool × List Int))) (i : Nat) (u : PV × PV × PV × PV), i + r.length = to.length → to.drop i = r →
      ((joinsK m t r).2 = 0 ∧ ∃ u', piterL (pdenL (PC pfs) lp21_1) (stT v4 I P ops w m size g k v3 t v6 v10 v11 to 0 i u) = some (.exit 0, stT v4 I P ops w (joinsK m t r).1 size g k v3 t v6 v10 v11 to 0 to.length u')) ∨
      ((joinsK m t r).2 ≠ 0 ∧ ∃ j u', piterL (pdenL (PC pfs) lp21_1) (stT v4 I P ops w m size g k v3 t v6 v10 v11 to 0 i u) = some (.ret, stT v4 I P ops w (joinsK m t r).1 size g k v3 t v6 v10 v11 to (joinsK m t r).2 j u'))
  | [], m, i, u, hi, _ => by
    have e : i = to.length := by simpa using hi
    subst e
    refine .inl ⟨rfl, (u.1, u.2.1, .b false, u.2.2.2), piterL_end ?_⟩
    simp [-prunOps, stT, lp21_1, vI, joinsK]
  | a :: r, m, i, u, hi, hd => by
    have hlt : i < to.length := by simp at hi; omega
    have ha : to[i] = a := by
      have := List.getElem_cons_drop hlt
      rw [hd] at this
      injection this
    have hr : to.drop (i + 1) = r := by
      have := List.getElem_cons_drop hlt
      rw [hd] at this
      injection this
    have hj := join_ok I P ops ⟨m, w.dones, w.high⟩ size g a t ht
    have hI := I_at i to hlt
    rw [ha] at hI
    unfold joinsK
    simp only at hj
    generalize joinK m a t = jr at *
    obtain ⟨m', e⟩ := jr
    simp only at *
    by_cases he : e = 0
    · subst he
      have h0 : pdenL (PC pfs) lp21_1 (stT v4 I P ops w m size g k v3 t v6 v10 v11 to 0 i u) = some (.norm, stT v4 I P ops w m' size g k v3 t v6 v10 v11 to 0 (i + 1) (.i .i64 a, .i .i64 0, .b true, .b false)) := by
        simp only [vI] at hj
        simp [-prunOps, -adj, -adj1, d_t0, stT, lp21_1, vI, hlt, hI, hj, awrap_nat1 (n := i) (by omega)]
      rw [piterL_step h0]
      simp only [ne_eq, not_true, if_false]
      exact joins_loop v4 I P ops w size g k v3 t ht v6 v10 v11 to hto r m' (i + 1) _ (by simp at hi; omega) hr
    · refine .inr ?_
      rw [if_pos he]
      refine ⟨he, i, (.i .i64 a, .i .i64 e, .b true, .b true), piterL_ret ?_⟩
      simp only [vI] at hj
      simp [-prunOps, -adj, -adj1, d_t0, stT, lp21_1, vI, hlt, hI, hj, he]
theorem look_op (ops : List (Int × KOp)) (k : Int) : ((mget ops k).map opV).getD (.agg [.i .i64 0, .i .i64 0, .i .i64 0, .i .i64 0, .i .i64 0]) = opV (opAt ops k) := by
  unfold opAt; cases mget ops k <;> rfl
theorem look_at (w : KW) (k : Int) : ((mget w.ats k).map atV).getD nil = atV (stAt w k) := by
  unfold stAt; cases mget w.ats k <;> rfl
theorem max3 (a b c : Int) : pMax [.i .i64 a, .i .i64 b, .i .i64 c] = some (.i .i64 (maxK (maxK a b) c)) := by
  rfl
@[simp] theorem getO_6 (a0 a1 a2 a3 a4 a5 : PObj) (g : List PObj) (x : PObj) (l : List PObj) : getO (a0 :: a1 :: a2 :: a3 :: a4 :: a5 :: (g ++ x :: l)) (g.length + 6) = x := getO_app g x l
@[simp] theorem setO_6 (a0 a1 a2 a3 a4 a5 : PObj) (g : List PObj) (x y : PObj) (l : List PObj) : setO (a0 :: a1 :: a2 :: a3 :: a4 :: a5 :: (g ++ x :: l)) (g.length + 6) y = a0 :: a1 :: a2 :: a3 :: a4 :: a5 :: (g ++ y :: l) := by
  show a0 :: a1 :: a2 :: a3 :: a4 :: a5 :: setO (g ++ x :: l) g.length y = _
  rw [setO_app]
theorem lend_obj (σ : PH) (x : PX) : mapO (lendC 8 σ) x.obj = some x.obj := rfl
theorem d_ti (md : Mode) (σ : PH) (x : PV) (k : IntKind) (n : Int) : adj md σ (.tup [x, .i k n]) = (match adj1 md σ x with
  | some (y, s) => some (.tup [y, .i k n], s)
  | none => none) := by
  unfold adj; simp only [mapC, a1_i]
  cases adj1 md σ x <;> rfl
theorem through_ok (x : PX) (I : List PV) (ops : List (Int × KOp)) (w : KW) (size : Nat) (g : List PObj) (k : Int) (hs : (stAt w k).2.length ≤ 1000)
    (ha : 0 ≤ (opAt ops k).a) (h0 : 0 ≤ (opAt ops k).sign) (h1 : (opAt ops k).sign ≤ 29) (hstep : (stepK x.env (opAt ops k) (stAt w k).2).1.length ≤ 1000) :
    ∃ g', PC pfs 21 [.p 5 0, .i .i64 k] (hW I x.obj ops w size g) = some (.i .i64 (throughK x.env size ops w k).2, hW I x.obj ops (throughK x.env size ops w k).1 size g') := by
  rw [PC_eq (F := pf21) rfl]
  have hu := upd_ok PV.b (hW I x.obj ops w size g) 4 w.dones k true (.b true) rfl rfl rfl
  have hlo := look_ok opV (hW I x.obj ops ⟨w.ats, mput w.dones k true, w.high⟩ size g) 2 ops.length ops k (.agg [.i .i64 0, .i .i64 0, .i .i64 0, .i .i64 0, .i .i64 0]) false rfl
  have hls := look_ok atV (hW I x.obj ops ⟨w.ats, mput w.dones k true, w.high⟩ size g) 3 w.ats.length w.ats k nil false rfl
  rw [look_op] at hlo
  rw [look_at] at hls
  have hst := step_ok x (opAt ops k) ha h0 h1 (stAt w k).2 hs
  have hon := on_ok (opAt ops k)
  have hcn := contains_ok false (onK (opAt ops k)) (size : Int) (by have := on_le (opAt ops k); omega)
  have hlp := joins_loop (atV (stAt w k)) I x.obj ops ⟨w.ats, mput w.dones k true, maxK (maxK w.high ((stAt w k).2.length : Int)) ((stepK x.env (opAt ops k) (stAt w k).2).1.length : Int)⟩ size (g ++ [.cells (opAt ops k).enc 0]) k (.p (g.length + 1 + 1 + 1 + 1 + 1 + 1) 0) (stepK x.env (opAt ops k) (stAt w k).2).1 hstep (.i .i64 0) (.b false) (.b false) (onK (opAt ops k)) (by have := on_le (opAt ops k); omega) (onK (opAt ops k)) w.ats 0 (.und, .und, .und, .und) (by simp) (by simp)
  unfold throughK
  generalize opAt ops k = o at *
  generalize stAt w k = s at *
  generalize stepK x.env o s.2 = sr at *
  obtain ⟨t, e⟩ := sr
  generalize onK o = to at *
  have e5 : psub o.enc 0 5 = some o.enc := rfl
  have e6 : psplice [.i .i64 0, .i .i64 0, .i .i64 0, .i .i64 0, .i .i64 0] 0 o.enc = some o.enc := rfl
  have eln : o.enc.length = 5 := rfl
  have hlo2 : ∀ σ, mapO (lendC 8 σ) o.enc = some o.enc := fun _ => rfl
  have hok : pokCells o.enc = true := rfl
  simp only [hW, vI, nil, PX.pv, opV, plookOut] at hu hlo hls hst hon hcn ⊢
  simp at hu
  have hle : ∀ (l : List PObj) a b c, lend ⟨.cells I 0 :: .cells x.obj 0 :: l, a, b, c⟩ (.p 1 0) = some (.pls (.v true false) x.obj 0) := fun _ _ _ _ => rfl
  have hla : ∀ σ, lend σ (.agg o.enc) = some (.agg o.enc) := fun _ => rfl
  have hli : ∀ σ k n, lend σ (.i k n) = some (.i k n) := fun _ _ _ => rfl
  have e2 : pget o.enc 2 = some (.i .i64 o.sign) := rfl
  have z0 : ((0 : Nat) : Int) = 0 := rfl
  by_cases he : e = 0
  · subst he
    refine ⟨g ++ [.cells o.enc 0], ?_⟩
    by_cases hsz : (size : Int) ∈ to
    · simp only [ne_eq, not_true, if_false, hsz, if_true]
      simp [-prunOps, -adj, -adj1, -pLen, -lend, d_t0, d_t2, d_ti, len_at, len_v, lend_at, lend_v, pf21, hu, hlo, hls, hst, e5, e6, eln, hok, hle, hla, hli, max3, hon, hcn, hsz]
    · simp only [ne_eq, not_true, if_false, hsz]
      rcases hlp with ⟨hj, u', hl⟩ | ⟨hj, j, u', hl⟩
      · simp only [stT, hW, vI, z0] at hl
        simp [-prunOps, -adj, -adj1, -pLen, -lend, d_t0, d_t2, d_ti, len_at, len_v, lend_at, lend_v, pf21, hu, hlo, hls, hst, e5, e6, eln, hok, hle, hla, hli, max3, hon, hcn, hsz, hl, hj]
      · simp only [stT, hW, vI, z0] at hl
        simp [-prunOps, -adj, -adj1, -pLen, -lend, d_t0, d_t2, d_ti, len_at, len_v, lend_at, lend_v, pf21, hu, hlo, hls, hst, e5, e6, eln, hok, hle, hla, hli, max3, hon, hcn, hsz, hl]
  · refine ⟨g ++ [.cells o.enc 0], ?_⟩
    simp only [ne_eq, he, not_false_iff, if_true]
    simp [-prunOps, -adj, -adj1, -pLen, -lend, d_t0, d_t2, d_ti, len_at, len_v, lend_at, lend_v, pf21, hu, hlo, hls, hst, e5, e6, eln, hok, hle, hla, he]
end Go.Av
end
section
/- Contracts (seat c6): check.Func: its loops. -/
namespace Go.Av
theorem mget_mput {α : Type} (v : α) (k k' : Int) : ∀ m : List (Int × α), mget (mput m k v) k' = if k' = k then some v else mget m k'
  | [] => by simp [mput, mget]
  | (j, w) :: m => by
    unfold mput
    by_cases h : k = j
    · rw [if_pos h]; subst h
      simp only [mget]
      by_cases h2 : k' = k
      · simp [h2]
      · simp [h2]
    · rw [if_neg h]
      simp only [mget]
      by_cases h2 : k' = j
      · subst h2
        have h3 : ¬ k' = k := fun e => h e.symm
        simp [h3]
      · simp only [if_neg h2]
        exact mget_mput v k k' m
/-- An instruction as it is read. -/
def OkOp (o : KOp) : Prop := 0 ≤ o.a ∧ 0 ≤ o.sign ∧ o.sign ≤ 29
theorem okOp_nil : OkOp .nil := ⟨by decide, by decide, by decide⟩
theorem okOp_read {num : List Int → Nat → Int} {b : List Int} (hb : Bytes b) (p : Nat) : OkOp (readS num b p).1 := by
  unfold readS
  split
  · exact okOp_nil
  · split
    · exact okOp_nil
    · have h1 := bAt_rng hb p
      have h2 := bAt_rng hb (p + 1)
      refine ⟨?_, by simp; omega, by simp; omega⟩
      simp only
      split <;> omega
theorem okOp_all {num : List Int → Nat → Int} {b : List Int} (hb : Bytes b) : ∀ (f p : Nat) (acc : List KOp), (∀ o ∈ acc, OkOp o) → ∀ o ∈ (allF num b f p acc).1, OkOp o
  | 0, _, _, h => h
  | f + 1, p, acc, h => by
    simp only [allF]
    split
    · split
      · refine okOp_all hb f _ _ fun o ho => ?_
        rcases List.mem_append.1 ho with h1 | h1
        · exact h o h1
        · rw [List.mem_singleton.1 h1]; exact okOp_read hb p
      · intro o ho; cases ho
    · exact h
def OpsOk (ops : List (Int × KOp)) : Prop := ∀ k, OkOp (opAt ops k)
theorem opsOk_put {ops : List (Int × KOp)} {o : KOp} (h : OpsOk ops) (ho : OkOp o) (k : Int) : OpsOk (mput ops k o) := by
  intro k'
  unfold opAt
  rw [mget_mput]
  split
  · exact ho
  · exact h k'
theorem opsOk_fold : ∀ (l : List KOp) (m : List (Int × KOp)), OpsOk m → (∀ o ∈ l, OkOp o) → OpsOk (l.foldl (fun m o => mput m o.pos o) m)
  | [], _, h, _ => h
  | o :: l, m, h, hl => opsOk_fold l _ (opsOk_put h (hl o (by simp)) _) fun o' h' => hl o' (by simp [h'])
theorem opsOk_K {l : List KOp} (h : ∀ o ∈ l, OkOp o) : OpsOk (opsK l) := opsOk_fold l [] (fun _ => okOp_nil) h
theorem opsK_succ (l : List KOp) (i : Nat) (h : i < l.length) : opsK (l.take (i + 1)) = mput (opsK (l.take i)) l[i].pos l[i] := by
  rw [← take_succ h]
  unfold opsK
  rw [List.foldl_append]; rfl
/-! ## The stacks are short -/
theorem stepK_len (E : KEnv) (o : KOp) (s : List Int) : (stepK E o s).1.length ≤ 8 := by
  unfold stepK
  repeat' split
  all_goals first | (simp; done) | skip
  rename_i h
  simp only [List.length_append, List.length_take]
  omega
def StOk (w : KW) : Prop := ∀ k, (stAt w k).2.length ≤ 8
theorem joinK_ok {m : List (Int × (Bool × List Int))} {d : List (Int × Bool)} {hi hi' : Int} {d' : List (Int × Bool)} (h : StOk ⟨m, d, hi⟩) (k : Int) (s : List Int) (hs : s.length ≤ 8) : StOk ⟨(joinK m k s).1, d', hi'⟩ := by
  unfold joinK
  split
  · intro k'
    unfold stAt
    simp only
    rw [mget_mput]
    split
    · exact hs
    · exact h k'
  · repeat' split
    all_goals exact h
theorem joinsK_ok {d d' : List (Int × Bool)} {hi hi' : Int} {s : List Int} (hs : s.length ≤ 8) : ∀ (l : List Int) (m : List (Int × (Bool × List Int))), StOk ⟨m, d, hi⟩ → StOk ⟨(joinsK m s l).1, d', hi'⟩
  | [], m, h => h
  | k :: l, m, h => by
    unfold joinsK
    split
    · exact joinK_ok h k s hs
    · exact joinsK_ok hs l _ (joinK_ok (d' := d) (hi' := hi) h k s hs)
theorem throughK_ok {E : KEnv} {size : Nat} {ops : List (Int × KOp)} {w : KW} (h : StOk w) (k : Int) : StOk (throughK E size ops w k).1 := by
  unfold throughK
  split
  · exact h
  · split
    · exact h
    · exact joinsK_ok (d := w.dones) (hi := w.high) (stepK_len _ _ _) _ _ h
/-! ## The loops -/
structure T12 where
  g : List PObj
  v7 : PV
  v8 : PV
  v9 : PV
  v10 : PV
  v11 : PV
  v12 : PV
  v18 : PV
  v22 : PV
  v23 : PV
  v25 : PV
  v26 : PV
def st12 (v0 : PV) (k : Int) (I P : List PV) (l : List KOp) (ops : List (Int × KOp)) (w : KW) (size : Nat) (v13 v14 v15 v16 v17 v19 v20 v21 v24 : PV) (v3 v4 : Int) (t : T12) : PSt :=
  ⟨[v0, .i .i64 k, .p 0 0, .i .i64 v3, .i .i64 v4, .ls (.v false false) l.length (l.flatMap KOp.enc), .p 5 0, t.v7, t.v8, t.v9, t.v10, t.v11, t.v12, v13, v14, v15, v16, v17, t.v18, v19, v20, v21, t.v22, t.v23, v24, t.v25, t.v26], hW I P ops w size t.g⟩
theorem ops_loop (v0 : PV) (k : Int) (I P : List PV) (l : List KOp) (hl : l.length ≤ 1000000) (w : KW) (size : Nat) (v13 v14 v19 v20 v21 v24 : PV) (t : T12) :
    ∃ t', piterL (pdenL (PC pfs) lp12_1) (st12 v0 k I P l [] w size v13 v14 (.ls (.v false false) l.length (l.flatMap KOp.enc)) (.i .i64 (l.length : Nat)) (.i .i64 0) v19 v20 v21 v24 0 0 t)
      = some (.exit 0, st12 v0 k I P l (opsK l) w size v13 v14 (.ls (.v false false) l.length (l.flatMap KOp.enc)) (.i .i64 (l.length : Nat)) (.i .i64 (l.length : Nat)) v19 v20 v21 v24 0 0 t') := by
  have key := @for_loop (pdenL (PC pfs) lp12_1) T12 0 (fun i t => st12 v0 k I P l (opsK (l.take i)) w size v13 v14 (.ls (.v false false) l.length (l.flatMap KOp.enc)) (.i .i64 (l.length : Nat)) (.i .i64 (i : Nat)) v19 v20 v21 v24 0 0 t) (fun t => st12 v0 k I P l (opsK l) w size v13 v14 (.ls (.v false false) l.length (l.flatMap KOp.enc)) (.i .i64 (l.length : Nat)) (.i .i64 (l.length : Nat)) v19 v20 v21 v24 0 0 t) l.length ?_ ?_ t
  · exact key
  · intro i hi t
    refine ⟨⟨t.g ++ [.cells l[i].enc 0], .p (t.g.length + 1 + 1 + 1 + 1 + 1 + 1) 0, t.v8, t.v9, t.v10, t.v11, t.v12, .b true, t.v22, t.v23, t.v25, t.v26⟩, ?_⟩
    have hu := upd_ok opV (hW I P (opsK (l.take i)) w size (t.g ++ [.cells l[i].enc 0])) 2 (opsK (l.take i)) l[i].pos l[i] (opV l[i]) rfl rfl rfl
    rw [← opsK_succ l i hi] at hu
    have hO := O_at i l hi
    generalize opsK (l.take (i + 1)) = o2 at *
    generalize opsK (l.take i) = o1 at *
    generalize l[i] = o at *
    have e5 : psub o.enc 0 5 = some o.enc := rfl
    have e6 : psplice [.i .i64 0, .i .i64 0, .i .i64 0, .i .i64 0, .i .i64 0] 0 o.enc = some o.enc := rfl
    have eln : o.enc.length = 5 := rfl
    have e0 : pget o.enc 0 = some (.i .i64 o.pos) := rfl
    have hok : pokCells o.enc = true := rfl
    simp only [hW, opV] at hu
    simp at hu
    simp [-prunOps, -adj, -adj1, d_t0, st12, lp12_1, hW, hi, hO, e0, e5, e6, eln, hok, hu, awrap_nat1 (n := i) (by omega)]
  · intro t
    refine ⟨⟨t.g, t.v7, t.v8, t.v9, t.v10, t.v11, t.v12, .b false, t.v22, t.v23, t.v25, t.v26⟩, ?_⟩
    simp [-prunOps, st12, lp12_1]
end Go.Av
end
section
/- Contracts (seat c6): check.Func: jumps, the going through. -/
namespace Go.Av
@[simp] theorem getO_app1 (g : List PObj) (x y : PObj) (l : List PObj) : getO (g ++ x :: y :: l) (g.length + 1) = y := by
  induction g with
  | nil => rfl
  | cons a g ih => exact ih
@[simp] theorem setO_app1 (g : List PObj) (x y z : PObj) (l : List PObj) : setO (g ++ x :: y :: l) (g.length + 1) z = g ++ x :: z :: l := by
  induction g with
  | nil => rfl
  | cons a g ih => exact congrArg (a :: ·) ih
theorem jump_loop (v0 : PV) (k : Int) (I P : List PV) (l : List KOp) (hl : l.length ≤ 1000000) (ops : List (Int × KOp)) (w : KW) (size : Nat) (v13 v14 v15 v16 v17 v24 : PV) (t : T12) :
    (l.any (badJump ops) = true ∧ ∃ (i : Nat) (t' : T12), piterL (pdenL (PC pfs) lp12_2) (st12 v0 k I P l ops w size v13 v14 v15 v16 v17 (.ls (.v false false) l.length (l.flatMap KOp.enc)) (.i .i64 (l.length : Nat)) (.i .i64 0) v24 0 0 t)
      = some (.ret, st12 v0 k I P l ops w size v13 v14 v15 v16 v17 (.ls (.v false false) l.length (l.flatMap KOp.enc)) (.i .i64 (l.length : Nat)) (.i .i64 (i : Nat)) v24 0 17 t')) ∨
    (l.any (badJump ops) = false ∧ ∃ t', piterL (pdenL (PC pfs) lp12_2) (st12 v0 k I P l ops w size v13 v14 v15 v16 v17 (.ls (.v false false) l.length (l.flatMap KOp.enc)) (.i .i64 (l.length : Nat)) (.i .i64 0) v24 0 0 t)
      = some (.exit 2, st12 v0 k I P l ops w size v13 v14 v15 v16 v17 (.ls (.v false false) l.length (l.flatMap KOp.enc)) (.i .i64 (l.length : Nat)) (.i .i64 (l.length : Nat)) v24 0 0 t')) := by
  have key := @for_find (pdenL (PC pfs) lp12_2) T12 2 (fun i t => st12 v0 k I P l ops w size v13 v14 v15 v16 v17 (.ls (.v false false) l.length (l.flatMap KOp.enc)) (.i .i64 (l.length : Nat)) (.i .i64 (i : Nat)) v24 0 0 t)
    (fun t => st12 v0 k I P l ops w size v13 v14 v15 v16 v17 (.ls (.v false false) l.length (l.flatMap KOp.enc)) (.i .i64 (l.length : Nat)) (.i .i64 (l.length : Nat)) v24 0 0 t) (fun i => ∃ h : i < l.length, badJump ops l[i] = true)
    (fun i t => st12 v0 k I P l ops w size v13 v14 v15 v16 v17 (.ls (.v false false) l.length (l.flatMap KOp.enc)) (.i .i64 (l.length : Nat)) (.i .i64 (i : Nat)) v24 0 17 t) l.length ?_ ?_ ?_ t
  · rcases key with ⟨i, hi, ⟨_, hp⟩, _, t', h⟩ | ⟨hj, t', h⟩
    · exact .inl ⟨List.any_eq_true.2 ⟨l[i], by simp, hp⟩, i, t', h⟩
    · refine .inr ⟨?_, t', h⟩
      rw [List.any_eq_false]
      intro o ho hb
      obtain ⟨j, hj1, rfl⟩ := List.getElem_of_mem ho
      exact hj j hj1 ⟨hj1, hb⟩
  · rintro i hi ⟨_, hp⟩ t
    have hO := O_at i l hi
    have hlk := look_ok opV (hW I P ops w size (t.g ++ [.cells l[i].enc 0])) 2 ops.length ops l[i].a (.agg [.i .i64 0, .i .i64 0, .i .i64 0, .i .i64 0, .i .i64 0]) true rfl
    rw [look_op] at hlk
    unfold badJump at hp
    cases hm : mget ops l[i].a with
    | some _ => rw [hm] at hp; simp at hp
    | none =>
      rw [hm] at hlk hp
      simp only [Option.isNone_none, Bool.true_and, Option.isSome_none, plookOut] at hlk hp
      generalize opAt ops l[i].a = o2 at *
      generalize l[i] = o at *
      have e5 : psub o.enc 0 5 = some o.enc := rfl
      have e6 : ∀ o : KOp, psplice [.i .i64 0, .i .i64 0, .i .i64 0, .i .i64 0, .i .i64 0] 0 o.enc = some o.enc := fun _ => rfl
      have eln : ∀ o : KOp, o.enc.length = 5 := fun _ => rfl
      have e2 : pget o.enc 2 = some (.i .i64 o.sign) := rfl
      have e3 : pget o.enc 3 = some (.i .i64 o.a) := rfl
      have hok : ∀ o : KOp, pokCells o.enc = true := fun _ => rfl
      simp only [hW, opV] at hlk
      refine ⟨⟨t.g ++ [.cells o.enc 0, .cells o2.enc 0], t.v7, .p (t.g.length + 1 + 1 + 1 + 1 + 1 + 1) 0, .b false, t.v10, t.v11, t.v12, t.v18, .b true, .b true, t.v25, t.v26⟩, ?_⟩
      by_cases h18 : o.sign = 18
      · simp [-prunOps, -adj, -adj1, d_t0, d_t2, st12, lp12_2, hW, hi, hO, e2, e3, e5, e6, eln, hok, hlk, h18]
      · have h19 : o.sign = 19 := by simpa [h18] using hp
        simp [-prunOps, -adj, -adj1, d_t0, d_t2, st12, lp12_2, hW, hi, hO, e2, e3, e5, e6, eln, hok, hlk, h19]
  · intro i hi hp t
    have hp : badJump ops l[i] = false := by
      cases hb : badJump ops l[i] with
      | false => rfl
      | true => exact (hp ⟨hi, hb⟩).elim
    have hO := O_at i l hi
    have hlk := look_ok opV (hW I P ops w size (t.g ++ [.cells l[i].enc 0])) 2 ops.length ops l[i].a (.agg [.i .i64 0, .i .i64 0, .i .i64 0, .i .i64 0, .i .i64 0]) true rfl
    rw [look_op] at hlk
    unfold badJump at hp
    simp only [plookOut] at hlk
    generalize opAt ops l[i].a = o2 at *
    have e6 : ∀ o : KOp, psplice [.i .i64 0, .i .i64 0, .i .i64 0, .i .i64 0, .i .i64 0] 0 o.enc = some o.enc := fun _ => rfl
    have eln : ∀ o : KOp, o.enc.length = 5 := fun _ => rfl
    have hok : ∀ o : KOp, pokCells o.enc = true := fun _ => rfl
    cases hm : mget ops l[i].a with
    | some _ =>
      rw [hm] at hlk
      simp only [Option.isSome_some] at hlk
      generalize l[i] = o at *
      have e5 : psub o.enc 0 5 = some o.enc := rfl
      have e2 : pget o.enc 2 = some (.i .i64 o.sign) := rfl
      have e3 : pget o.enc 3 = some (.i .i64 o.a) := rfl
      simp only [hW, opV] at hlk
      refine ⟨⟨t.g ++ [.cells o.enc 0, .cells o2.enc 0], t.v7, .p (t.g.length + 1 + 1 + 1 + 1 + 1 + 1) 0, .b true, t.v10, t.v11, t.v12, t.v18, .b true, .b false, t.v25, t.v26⟩, ?_⟩
      simp [-prunOps, -adj, -adj1, d_t0, d_t2, st12, lp12_2, hW, hi, hO, e2, e3, e5, e6, eln, hok, hlk, awrap_nat1 (n := i) (by omega)]
    | none =>
      rw [hm] at hlk hp
      simp only [Option.isSome_none, Option.isNone_none, Bool.true_and] at hlk hp
      generalize l[i] = o at *
      have e5 : psub o.enc 0 5 = some o.enc := rfl
      have e2 : pget o.enc 2 = some (.i .i64 o.sign) := rfl
      have e3 : pget o.enc 3 = some (.i .i64 o.a) := rfl
      simp only [hW, opV] at hlk
      have h18 : o.sign ≠ 18 := by intro e; rw [e] at hp; simp at hp
      have h19 : o.sign ≠ 19 := by intro e; rw [e] at hp; simp at hp
      refine ⟨⟨t.g ++ [.cells o.enc 0, .cells o2.enc 0], t.v7, .p (t.g.length + 1 + 1 + 1 + 1 + 1 + 1) 0, .b false, t.v10, t.v11, t.v12, t.v18, .b true, .b false, t.v25, t.v26⟩, ?_⟩
      simp [-prunOps, -adj, -adj1, d_t0, d_t2, st12, lp12_2, hW, hi, hO, e2, e3, e5, e6, eln, hok, hlk, h18, h19, awrap_nat1 (n := i) (by omega)]
  · intro t
    refine ⟨⟨t.g, t.v7, t.v8, t.v9, t.v10, t.v11, t.v12, t.v18, .b false, t.v23, t.v25, t.v26⟩, ?_⟩
    simp [-prunOps, st12, lp12_2]
theorem go_loop (v0 : PV) (k : Int) (I : List PV) (x : PX) (l : List KOp) (ops : List (Int × KOp)) (ho : OpsOk ops) (size : Nat) (hsz : size ≤ 1000000) (v13 v14 v15 v16 v17 v19 v20 v21 v24 : PV) :
    ∀ (f : Nat) (w : KW) (r : Int × Int) (t : T12), StOk w → goK x.env size ops f w = some r →
      ∃ w' t', piterL (pdenL (PC pfs) lp12_3) (st12 v0 k I x.obj l ops w size v13 v14 v15 v16 v17 v19 v20 v21 v24 0 0 t) = some (.ret, st12 v0 k I x.obj l ops w' size v13 v14 v15 v16 v17 v19 v20 v21 v24 r.1 r.2 t')
  | 0, _, _, _, _, h => by cases h
  | f + 1, w, r, t, hw, h => by
    have hn := next_ok I x.obj ops w size hsz t.g
    unfold goK at h
    cases hne : nextK w size 0 with
    | none =>
      rw [hne] at h hn
      simp only [Option.some.injEq] at h
      subst h
      refine ⟨w, ⟨t.g, t.v7, t.v8, t.v9, .i .i64 0, .b false, t.v12, t.v18, t.v22, t.v23, .b true, t.v26⟩, piterL_ret ?_⟩
      simp only [hW] at hn
      simp [-prunOps, -adj, -adj1, d_t0, d_t2, st12, lp12_3, hW, hn]
    | some p =>
      rw [hne] at h hn
      simp only at h hn
      obtain ⟨a1, a2, a3⟩ := ho p
      obtain ⟨g', ht⟩ := through_ok x I ops w size t.g p (by have := hw p; omega) a1 a2 a3 (by have := stepK_len x.env (opAt ops p) (stAt w p).2; omega)
      have hw2 := throughK_ok (E := x.env) (size := size) (ops := ops) hw (p : Int)
      generalize throughK x.env size ops w p = tr at *
      obtain ⟨w2, e⟩ := tr
      simp only at h ht hw2
      simp only [hW] at hn ht
      by_cases he : e = 0
      · subst he
        simp only [ne_eq, not_true, if_false] at h
        obtain ⟨w', t', hl⟩ := go_loop v0 k I x l ops ho size hsz v13 v14 v15 v16 v17 v19 v20 v21 v24 f w2 r ⟨g', t.v7, t.v8, t.v9, .i .i64 (p : Nat), .b true, .i .i64 0, t.v18, t.v22, t.v23, .b false, .b false⟩ hw2 h
        refine ⟨w', t', ?_⟩
        rw [piterL_step (s' := st12 v0 k I x.obj l ops w2 size v13 v14 v15 v16 v17 v19 v20 v21 v24 0 0 ⟨g', t.v7, t.v8, t.v9, .i .i64 (p : Nat), .b true, .i .i64 0, t.v18, t.v22, t.v23, .b false, .b false⟩)]
        · exact hl
        · simp [-prunOps, -adj, -adj1, d_t0, d_t2, st12, lp12_3, hW, hn, ht]
      · rw [if_pos he] at h
        simp only [Option.some.injEq] at h
        subst h
        refine ⟨w2, ⟨g', t.v7, t.v8, t.v9, .i .i64 (p : Nat), .b true, .i .i64 e, t.v18, t.v22, t.v23, .b false, .b true⟩, piterL_ret ?_⟩
        simp [-prunOps, -adj, -adj1, d_t0, d_t2, st12, lp12_3, hW, hn, ht, he]
end Go.Av
end
section
/- Contracts (seat c6): check.Func. -/
namespace Go.Av
def PX.img (x : PX) : List PV := [.ls (.v x.b1 false) x.n1 x.c1, .ls (.v x.b2 false) x.n2 x.c2, .ls (.v x.b3 false) x.n3 x.c3]
theorem func_none (x : PX) (k : Int) (hk : k < 0 ∨ (x.n3 : Int) ≤ k) : iso (PC pfs) 12 [.agg x.img, .i .i64 k] = some (.tup [.i .i64 0, .i .i64 2]) := by
  unfold iso
  rw [PC_eq (F := pf12) rfl]
  by_cases h : k < 0
  · simp [-prunOps, pf12, PX.img, h]
  · have h2 : (x.n3 : Int) ≤ k := by omega
    simp [-prunOps, pf12, PX.img, h, h2]
theorem stOk0 : StOk ⟨[(0, (true, []))], [], 0⟩ := by
  intro k
  unfold stAt mget
  simp only [mget]
  split <;> simp
theorem func_ok (x : PX) (hb4 : x.b4 = false) (hc : iso (PC pfs) 19 [.ls (.v x.b1 false) x.n1 x.c1] = some (.ls (.v false false) x.cells.length (x.cells.flatMap PCell.enc))) (k : Nat) (bb : Bool) (b : List Int) (hb : Bytes b) (hl : b.length ≤ 100000) (hk : k < x.n3)
    (hg : pget x.c3 k = some (.ls (.v bb false) b.length (b.flatMap encU))) (r : Int × Int) (hr : funcK x.env b = some r) :
    iso (PC pfs) 12 [.agg x.img, .i .i64 (k : Nat)] = some (.tup [.i .i64 r.1, .i .i64 r.2]) := by
  have hall := iall_ok bb b hb (by omega)
  have hops := okOp_all (num := numK) hb b.length 0 [] (fun o ho => by cases ho)
  have hlen := allF_len (num := numK) (b := b) b.length 0 [] (by omega) (by simp) (by omega)
  have e : allF numK b b.length 0 [] = allS numK b := rfl
  rw [e] at hops hlen
  unfold funcK at hr
  generalize allS numK b = as at *
  obtain ⟨l, ea⟩ := as
  simp only at hr hall hops hlen
  have hkn : ¬ ((k : Int) < 0) := by omega
  have hkc : ¬ ((x.n3 : Int) ≤ (k : Int)) := by omega
  unfold iso
  rw [PC_eq (F := pf12) rfl]
  have z0 : ((0 : Nat) : Int) = 0 := rfl
  by_cases hea : ea = 0
  · subst hea
    simp only [ne_eq, not_true, if_false] at hr
    obtain ⟨t1, h1⟩ := ops_loop (.agg x.img) k x.img x.obj l (by omega) ⟨[], [], 0⟩ b.length (.b false) (.b false) .und .und .und .und ⟨[], .und, .und, .und, .und, .und, .und, .und, .und, .und, .und, .und⟩
    have h2 := jump_loop (.agg x.img) k x.img x.obj l (by omega) (opsK l) ⟨[], [], 0⟩ b.length (.b false) (.b false) (.ls (.v false false) l.length (l.flatMap KOp.enc)) (.i .i64 (l.length : Nat)) (.i .i64 (l.length : Nat)) .und t1
    simp only [st12, hW, PX.img, PX.obj, hb4, encM, List.length_nil] at h1 h2
    rcases h2 with ⟨hj, i, t2, h2⟩ | ⟨hj, t2, h2⟩
    · rw [if_pos hj] at hr
      simp only [Option.some.injEq] at hr
      subst hr
      simp [-prunOps, -adj, -adj1, -pLen, -lend, d_t0, d_t2, d_ti, len_v, lend_v, pf12, PX.img, hkn, hkc, hg, hk, hall, hc, h1, h2]
    · rw [if_neg (by rw [hj]; simp)] at hr
      by_cases hl0 : l.length = 0
      · rw [if_pos hl0] at hr
        simp only [Option.some.injEq] at hr
        subst hr
        have hl1 : ((l.length : Nat) : Int) = 0 := by omega
        rw [hl1] at h1 h2
        simp [-prunOps, -adj, -adj1, -pLen, -lend, d_t0, d_t2, d_ti, len_v, lend_v, pf12, PX.img, hkn, hkc, hg, hk, hall, hc, hl1, h1, h2]
      · rw [if_neg hl0] at hr
        have hl1 : ¬ (((l.length : Nat) : Int) = 0) := by omega
        obtain ⟨w', t3, h3⟩ := go_loop (.agg x.img) k x.img x l (opsK l) (opsOk_K hops) b.length (by omega) (.b false) (.b false) (.ls (.v false false) l.length (l.flatMap KOp.enc)) (.i .i64 (l.length : Nat)) (.i .i64 (l.length : Nat)) (.ls (.v false false) l.length (l.flatMap KOp.enc)) (.i .i64 (l.length : Nat)) (.i .i64 (l.length : Nat)) (.b false) _ _ r t2 stOk0 hr
        have hu := upd_ok atV (hW x.img x.obj (opsK l) ⟨[], [], 0⟩ b.length t2.g) 3 [] 0 (true, []) nil rfl rfl rfl
        simp only [st12, hW, PX.img, PX.obj, hb4, encM, List.length_nil, mput, List.length_cons, nil] at h3 hu
        simp at hu
        simp at h3
        generalize (encM opV (opsK l) 0) = eo at *
        simp [-prunOps, -adj, -adj1, -pLen, -lend, d_t0, d_t2, d_ti, len_v, lend_v, pf12, PX.img, hkn, hkc, hg, hk, hall, hc, hl0, hl1, h1, h2, hu, h3]
  · simp only [ne_eq, hea, not_false_iff, if_true, Option.some.injEq] at hr
    subst hr
    simp [-prunOps, -adj, -adj1, -pLen, -lend, d_t0, d_t2, d_ti, len_v, lend_v, pf12, PX.img, hkn, hkc, hg, hk, hall, hea]
end Go.Av
end
section
/- Seat c6: the going through ends; what is known of small programs. -/
namespace Go.Av
def undoneK (w : KW) (size : Nat) : Nat := (List.range size).countP fun p => !((mget w.dones (p : Nat)).getD false)
theorem next_ready {w : KW} : ∀ {n p q : Nat}, nextK w n p = some q → p ≤ q ∧ q < p + n ∧ readyK w q = true
  | 0, _, _, h => by cases h
  | n + 1, p, q, h => by
    unfold nextK at h
    split at h
    · rename_i hr
      injection h with h; subst h
      exact ⟨Nat.le_refl _, by omega, hr⟩
    · obtain ⟨a, b, c⟩ := next_ready h
      exact ⟨by omega, by omega, c⟩
theorem countP_lt {p q : Nat → Bool} : ∀ {l : List Nat}, (∀ x ∈ l, q x = true → p x = true) → (∃ x ∈ l, p x = true ∧ q x = false) → l.countP q < l.countP p
  | [], _, ⟨_, h, _⟩ => by cases h
  | a :: l, h, ⟨x, hx, h1, h2⟩ => by
    have hle : l.countP q ≤ l.countP p := List.countP_mono_left fun y hy => h y (by simp [hy])
    rw [List.countP_cons, List.countP_cons]
    rcases List.mem_cons.1 hx with e | e
    · subst e
      rw [if_pos h1, if_neg (by rw [h2]; simp)]
      omega
    · have ih := countP_lt (l := l) (fun y hy => h y (by simp [hy])) ⟨x, e, h1, h2⟩
      have ha := h a (by simp)
      by_cases c : q a = true
      · rw [if_pos c, if_pos (ha c)]; omega
      · rw [if_neg c]; split <;> omega
theorem through_dones (E : KEnv) (size : Nat) (ops : List (Int × KOp)) (w : KW) (k : Int) : (throughK E size ops w k).1.dones = mput w.dones k true := by
  unfold throughK
  split
  · rfl
  · split <;> rfl
theorem go_ends (E : KEnv) (size : Nat) (ops : List (Int × KOp)) : ∀ (f : Nat) (w : KW), undoneK w size < f → ∃ r, goK E size ops f w = some r
  | 0, _, h => by omega
  | f + 1, w, h => by
    unfold goK
    cases hn : nextK w size 0 with
    | none => exact ⟨_, rfl⟩
    | some p =>
      obtain ⟨_, hp, hr⟩ := next_ready hn
      simp only
      split
      · exact ⟨_, rfl⟩
      · refine go_ends E size ops f _ ?_
        have : undoneK (throughK E size ops w p).1 size < undoneK w size := by
          unfold undoneK
          rw [through_dones]
          refine countP_lt (fun x _ hx => ?_) ⟨p, by simp; omega, ?_, ?_⟩
          · rw [mget_mput] at hx
            split at hx
            · simp at hx
            · exact hx
          · unfold readyK at hr
            simp only [Bool.and_eq_true] at hr
            exact hr.2
          · rw [mget_mput]; simp
        omega
theorem func_ends (E : KEnv) (b : List Int) : ∃ r, funcK E b = some r := by
  unfold funcK
  split
  · exact ⟨_, rfl⟩
  · split
    · exact ⟨_, rfl⟩
    · split
      · exact ⟨_, rfl⟩
      · refine go_ends _ _ _ _ _ ?_
        unfold undoneK
        exact Nat.lt_succ_of_le (Nat.le_trans List.countP_le_length (by simp))
theorem cells_nil (b : Bool) : iso (PC pfs) 19 [.ls (.v b false) 0 []] = some (.ls (.v false false) 0 []) := by
  have h : ∀ b, iso (prun pfs 60 60) 19 [.ls (.v b false) 0 []] = some (.ls (.v false false) 0 []) := by
    intro b; cases b
    · kernel_rfl
    · kernel_rfl
  exact iso_mono PC_of (h b)
/-- A program of nothing but functions (and constants). -/
def px0 (n2 : Nat) (c2 : List PV) (n3 : Nat) (c3 : List PV) : PX := ⟨false, 0, [], false, n2, c2, false, n3, c3, false, []⟩
theorem func0_ok (n2 : Nat) (c2 : List PV) (n3 : Nat) (c3 : List PV) (k : Nat) (bb : Bool) (b : List Int) (hb : Bytes b) (hl : b.length ≤ 100000) (hk : k < n3)
    (hg : pget c3 k = some (.ls (.v bb false) b.length (b.flatMap encU))) (r : Int × Int) (hr : funcK ⟨[], n2, n3⟩ b = some r) :
    iso (PC pfs) 12 [.agg [.ls (.v false false) 0 [], .ls (.v false false) n2 c2, .ls (.v false false) n3 c3], .i .i64 (k : Nat)] = some (.tup [.i .i64 r.1, .i .i64 r.2]) :=
  func_ok (px0 n2 c2 n3 c3) rfl (cells_nil false) k bb b hb hl hk hg r hr
theorem bytes1 (x : Int) (h : 0 ≤ x ∧ x < 256) : Bytes [x] := fun y hy => by rw [List.mem_singleton.1 hy]; exact h
theorem known_ok : iso (PC pfs) 9 [] = some (.b true) := by
  unfold iso
  rw [PC_eq (F := pf9) rfl]
  have h1 := func0_ok 0 [] 1 [.ls (.v false false) 1 [.i .u8 0]] 0 false [0] (bytes1 0 (by omega)) (by simp) (by omega) rfl (0, 0) (by kernel_rfl)
  have h2 := func0_ok 0 [] 1 [.ls (.v false false) 1 [.i .u8 22]] 0 false [22] (bytes1 22 (by omega)) (by simp) (by omega) rfl (0, 18) (by kernel_rfl)
  simp at h1 h2
  simp [-prunOps, pf9, h1, h2]
end Go.Av
end
section
/- Contracts (seat c6): solenoidref10.Read, All. -/
namespace Go.Av
def numRF (b : List Int) (q : Nat) : Nat → Int
  | 0 => 0
  | j + 1 => ofU .u64 (Nat.lor (toU .u64 (awrap .u64 (numRF b q j * pow2 8))) (toU .u64 (awrap .u64 (bAt b (q + (7 - j))))))
def numR (b : List Int) (q : Nat) : Int := awrap .i64 (numRF b q 8)
def stRn (t : Bool) (b : List Int) (p : Nat) (v3 v5 v8 v9 v10 v11 v12 : PV) (σ : PH) (j : Nat) (u : PV) : PSt := ⟨[.ls (.v t false) b.length (b.flatMap encU), .i .i64 (p : Nat), .p 0 0, v3, .p 1 0, v5, .i .u64 (numRF b (p + 2) j), .i .i64 (7 - (j : Int)), v8, v9, v10, v11, v12, u], σ⟩
theorem rnum_loop (t : Bool) (b : List Int) (p : Nat) (hp : p + 10 ≤ b.length) (hl : b.length ≤ 1000000) (v3 v5 v8 v9 v10 v11 v12 : PV) (σ : PH) (u : PV) :
    ∃ u', piterL (pdenL (PC pfs) lp22_1) (stRn t b p v3 v5 v8 v9 v10 v11 v12 σ 0 u) = some (.exit 0, stRn t b p v3 v5 v8 v9 v10 v11 v12 σ 8 u') := by
  refine @for_loop (pdenL (PC pfs) lp22_1) PV 0 (stRn t b p v3 v5 v8 v9 v10 v11 v12 σ) (stRn t b p v3 v5 v8 v9 v10 v11 v12 σ 8) 8 ?_ ?_ u
  · intro j hj u
    refine ⟨.b true, ?_⟩
    have c1 : (0 : Int) ≤ 7 - (j : Int) := by omega
    have w1 : awrap .i64 ((p : Int) + 2) = (p : Int) + 2 := awrap_id (by omega) (by omega)
    have w2 : awrap .i64 ((p : Int) + 2 + (7 - (j : Int))) = ((p + 2 + (7 - j) : Nat) : Int) := by rw [awrap_id (by omega) (by omega)]; omega
    have w3 : awrap .i64 (7 - (j : Int) - 1) = 7 - ((j : Int) + 1) := by rw [awrap_id (by omega) (by omega)]; omega
    have hi : p + 2 + (7 - j) < b.length := by omega
    have hU := U_at (p + 2 + (7 - j)) b hi
    have c2 : ¬ ((7 : Int) < (j : Int)) := by omega
    have c3 : (j : Int) ≤ 7 := by omega
    generalize hq : p + 2 + (7 - j) = q at *
    simp [-prunOps, stRn, lp22_1, c1, c2, c3, w1, w2, w3, hi, hU, kBits, numRF, hq]
  · intro u
    refine ⟨.b false, ?_⟩
    simp [-prunOps, stRn, lp22_1]
theorem rread_ok (t : Bool) (b : List Int) (hb : Bytes b) (p : Nat) (hp : p < b.length) (hl : b.length ≤ 1000000) :
    iso (PC pfs) 22 [.ls (.v t false) b.length (b.flatMap encU), .i .i64 (p : Nat)] = some (.tup [.agg (readS numR b p).1.enc, .i .i64 (readS numR b p).2]) := by
  unfold iso
  rw [PC_eq (F := pf22) rfl]
  have hr := bAt_rng hb p
  have hc : ¬ ((b.length : Int) ≤ (p : Int)) := by omega
  have hn : ¬ ((p : Int) < 0) := by omega
  have hU := U_at p b hp
  have hw := awrap_byte hb p
  by_cases h29 : 29 < bAt b p
  · simp [-prunOps, pf22, hp, hc, hn, hU, hw, h29, readS, KOp.enc, KOp.nil]
  · have hbe := rbears_ok (bAt b p) hr.1 (by omega)
    have hb0 := bearsK_cases (bAt b p)
    have hs1 : awrap .i64 ((b.length : Int) - (p : Int)) = (b.length : Int) - (p : Int) := awrap_id (by omega) (by omega)
    have hs2 : awrap .i64 ((b.length : Int) - (p : Int) - 1) = (b.length : Int) - ((p : Int) + 1) := by rw [awrap_id (by omega) (by omega)]; omega
    have ha1 : awrap .i64 ((p : Int) + 1) = (p : Int) + 1 := awrap_id (by omega) (by omega)
    by_cases hcut : (b.length : Int) - ((p : Int) + 1) < bearsK (bAt b p)
    · simp [-prunOps, pf22, hp, hc, hn, hU, hw, h29, hbe, readS, KOp.enc, KOp.nil, hs1, hs2, hcut]
    · have ha2 : awrap .i64 ((p : Int) + 1 + bearsK (bAt b p)) = (p : Int) + 1 + bearsK (bAt b p) := awrap_id (by omega) (by omega)
      rcases hb0 with h0 | h0 | ⟨h0, h1⟩
      · have hne : bAt b p ≠ 1 := by intro e; rw [e] at h0; simp [bearsK] at h0
        rw [h0] at hbe hcut ha2
        simp at ha2
        simp [-prunOps, pf22, hp, hc, hn, hU, hw, h29, hbe, readS, KOp.enc, KOp.nil, hs1, hs2, hcut, h0, hne, ha1, ha2]
      · have hne : bAt b p ≠ 1 := by intro e; rw [e] at h0; simp [bearsK] at h0
        rw [h0] at hbe hcut ha2
        have hp1 : p + 1 < b.length := by omega
        have hU1 := U_at (p + 1) b hp1
        have hw1 := awrap_byte hb (p + 1)
        have e1 : (p : Int) + 1 = ((p + 1 : Nat) : Int) := rfl
        have e2 : pIndex (.i .i64 ((p : Int) + 1)) b.length = some (p + 1) := by rw [e1, pIndex_nat, if_pos hp1]
        simp [-prunOps, -pIndex, pf22, hp, hc, hn, hU, hw, h29, hbe, readS, KOp.enc, KOp.nil, hs1, hs2, hcut, h0, hne, ha1, ha2, e2, hU1, hw1]
      · rw [h1] at h0 hbe hcut ha2 hU hw
        rw [h0] at hbe hcut ha2
        have hp1 : p + 1 < b.length := by omega
        have hU1 := U_at (p + 1) b hp1
        have hw1 := awrap_byte hb (p + 1)
        have e1 : (p : Int) + 1 = ((p + 1 : Nat) : Int) := rfl
        have e2 : pIndex (.i .i64 ((p : Int) + 1)) b.length = some (p + 1) := by rw [e1, pIndex_nat, if_pos hp1]
        obtain ⟨u', hlp⟩ := rnum_loop t b p (by omega) hl (.i .i64 0) (.i .i64 9) (.b false) (.b false) (.b false) (.b true) (.b true) ⟨[.cells [.i .i64 0, .i .i64 0, .i .i64 0, .i .i64 0, .i .i64 0] 0, .cells [.i .i64 p, .i .i64 ((p : Int) + 1 + 9), .i .i64 1, .i .i64 (bAt b (p + 1)), .i .i64 0] 0], 0, [], 0⟩ .und
        simp [stRn, numRF] at hlp
        simp [-prunOps, -pIndex, pf22, hp, hc, hn, hU, hw, h29, h1, hbe, readS, KOp.enc, KOp.nil, hs1, hs2, hcut, h0, ha1, ha2, e2, hU1, hw1, hlp, numR, numRF]
def rallR (B v1 : PV) (r : List KOp × Int) (x : Ex × PSt) : Prop :=
  (r.2 = 0 ∧ ∃ (at_ : Int) (u5 u6 u7 u8 : PV) (g : List PObj), x = (.exit 0, ⟨[B, v1, .i .i64 0, .ls (.own 0 r.1.length) r.1.length (r.1.flatMap KOp.enc), .i .i64 at_, u5, u6, u7, u8], ⟨g, 0, [.live r.1.length r.1.length 5], 0⟩⟩)) ∨
  (r.2 ≠ 0 ∧ r.1 = [] ∧ ∃ (v3 v4 u5 u6 u7 u8 : PV) (σ : PH), x = (.ret, ⟨[B, nil, .i .i64 r.2, v3, v4, u5, u6, u7, u8], σ⟩))
theorem rall_loop (t : Bool) (b : List Int) (hb : Bytes b) (hl : b.length ≤ 1000000) (v1 : PV) : ∀ (f p : Nat) (acc : List KOp) (u5 u6 u7 u8 : PV) (g : List PObj), b.length ≤ f + p → acc.length ≤ p →
    ∃ x, piterL (pdenL (PC pfs) lp13_1) ⟨[.ls (.v t false) b.length (b.flatMap encU), v1, .i .i64 0, .ls (.own 0 acc.length) acc.length (acc.flatMap KOp.enc), .i .i64 (p : Nat), u5, u6, u7, u8], ⟨g, 0, [.live acc.length acc.length 5], 0⟩⟩ = some x
      ∧ rallR (.ls (.v t false) b.length (b.flatMap encU)) v1 (allF numR b f p acc) x := by
  have hend : ∀ (f p : Nat) (acc : List KOp) (u5 u6 u7 u8 : PV) (g : List PObj), b.length ≤ p →
      ∃ x, piterL (pdenL (PC pfs) lp13_1) ⟨[.ls (.v t false) b.length (b.flatMap encU), v1, .i .i64 0, .ls (.own 0 acc.length) acc.length (acc.flatMap KOp.enc), .i .i64 (p : Nat), u5, u6, u7, u8], ⟨g, 0, [.live acc.length acc.length 5], 0⟩⟩ = some x
        ∧ rallR (.ls (.v t false) b.length (b.flatMap encU)) v1 (acc, 0) x := by
    intro f p acc u5 u6 u7 u8 g h
    have hc : ¬ ((p : Int) < (b.length : Int)) := by omega
    refine ⟨_, ?_, .inl ⟨rfl, p, u5, u6, .b false, u8, g, rfl⟩⟩
    rw [piterL_eq]
    simp [-prunOps, lp13_1, hc]
  intro f
  induction f with
  | zero =>
    intro p acc u5 u6 u7 u8 g h _
    exact hend 0 p acc u5 u6 u7 u8 g (by omega)
  | succ f ih =>
    intro p acc u5 u6 u7 u8 g h hap
    by_cases hp : p < b.length
    · have hr := rread_ok t b hb p hp (by omega)
      have hc : (p : Int) < (b.length : Int) := by omega
      simp only [allF, if_pos hp]
      by_cases he : (readS numR b p).2 = 0
      · rw [if_pos he]
        have hx := readS_next (num := numR) he
        rw [he] at hr
        have ha := pan_flat (enc := KOp.enc) (k := 5) (bytes := 40) (r := 0) (v := acc.length) (n := acc.length) (σ := ⟨g ++ [.cells (readS numR b p).1.enc 0], 0, [.live acc.length acc.length 5], 0⟩) (fun _ => rfl) (by omega) acc (acc ++ [(readS numR b p).1]) (readS numR b p).1 rfl rfl rfl (by omega) (by omega)
        obtain ⟨x, h1, h2⟩ := ih (nextN b p) (acc ++ [(readS numR b p).1]) (.p g.length 0) (.i .i64 0) (.b true) (.b false) (g ++ [.cells (readS numR b p).1.enc 0]) (by unfold nextN; omega) (by unfold nextN; simp; omega)
        refine ⟨x, ?_, h2⟩
        rw [piterL_eq, ← h1]
        rw [← hx] 
        have e5 : (readS numR b p).1.enc = [.i .i64 (readS numR b p).1.pos, .i .i64 (readS numR b p).1.next, .i .i64 (readS numR b p).1.sign, .i .i64 (readS numR b p).1.a, .i .i64 (readS numR b p).1.n] := rfl
        generalize readS numR b p = o at *
        rw [e5] at ha hr ⊢
        simp at ha
        simp [-prunOps, lp13_1, hc, hr]
        simp [-prunOps, ha]
      · rw [if_neg he]
        refine ⟨_, ?_, .inr ⟨he, rfl, .ls (.own 0 acc.length) acc.length (acc.flatMap KOp.enc), .i .i64 (p : Nat), .p g.length 0, .i .i64 (readS numR b p).2, .b true, .b true, ⟨g ++ [.cells (readS numR b p).1.enc 0], 0, [.live acc.length acc.length 5], 0⟩, rfl⟩⟩
        rw [piterL_eq]
        have e5 : (readS numR b p).1.enc = [.i .i64 (readS numR b p).1.pos, .i .i64 (readS numR b p).1.next, .i .i64 (readS numR b p).1.sign, .i .i64 (readS numR b p).1.a, .i .i64 (readS numR b p).1.n] := rfl
        generalize readS numR b p = o at *
        rw [e5] at hr ⊢
        simp [-prunOps, lp13_1, hc, hr, he]
    · simp only [allF, if_neg hp]
      exact hend (f + 1) p acc u5 u6 u7 u8 g (by omega)
theorem rall_ok (t : Bool) (b : List Int) (hb : Bytes b) (hl : b.length ≤ 1000000) :
    ((allS numR b).2 = 0 ∧ iso (PC pfs) 13 [.ls (.v t false) b.length (b.flatMap encU)] = some (.tup [.ls (.fresh (allS numR b).1.length 5) (allS numR b).1.length ((allS numR b).1.flatMap KOp.enc), .i .i64 0])) ∨
    ((allS numR b).2 ≠ 0 ∧ (allS numR b).1 = [] ∧ iso (PC pfs) 13 [.ls (.v t false) b.length (b.flatMap encU)] = some (.tup [.ls (.v false false) 0 [], .i .i64 (allS numR b).2])) := by
  unfold iso
  rw [PC_eq (F := pf13) rfl]
  obtain ⟨x, h1, h2⟩ := rall_loop t b hb hl nil b.length 0 [] .und .und .und .und [] (by omega) (by simp)
  have e : allF numR b b.length 0 [] = allS numR b := rfl
  rw [e] at h2
  generalize allS numR b = r at *
  simp at h1
  rcases h2 with ⟨he, k, u5, u6, u7, u8, g, hx⟩ | ⟨he, hn, v3, v4, u5, u6, u7, u8, σ, hx⟩
  · subst hx
    refine .inl ⟨he, ?_⟩
    simp [-prunOps, pf13, h1]
  · subst hx
    refine .inr ⟨he, hn, ?_⟩
    simp [-prunOps, pf13, h1]
/-- What is wrong does not hang on how numbers are taken. -/
theorem all_same (n1 n2 : List Int → Nat → Int) (b : List Int) : ∀ (f p : Nat) (a1 a2 : List KOp), (allF n1 b f p a1).2 = (allF n2 b f p a2).2
  | 0, _, _, _ => rfl
  | f + 1, p, a1, a2 => by
    have h : (readS n1 b p).2 = (readS n2 b p).2 := by
      unfold readS
      split
      · rfl
      · split <;> rfl
    simp only [allF, h]
    split
    · split
      · exact all_same n1 n2 b f _ _ _
      · rfl
    · rfl
end Go.Av
end
