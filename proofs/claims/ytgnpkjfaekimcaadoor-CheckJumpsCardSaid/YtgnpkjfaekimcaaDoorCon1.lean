/- Contracts of the functions that the law reaches. -/
import Derived.Test.YtgnpkjfaekimcaaDoorAvD
import Derived.Test.YtgnpkjfaekimcaaDoorFns
set_option linter.unusedVariables false
set_option linter.unusedSimpArgs false
set_option linter.unusedSectionVars false
section
/- What check.Func says, in plain terms: instructions, stacks, the going through. No program in sight. -/
namespace Go.Av
structure KOp where
  pos : Int
  next : Int
  sign : Int
  a : Int
  n : Int
def KOp.enc (o : KOp) : List PV := [.i .i64 o.pos, .i .i64 o.next, .i .i64 o.sign, .i .i64 o.a, .i .i64 o.n]
def KOp.nil : KOp := ⟨0, 0, 0, 0, 0⟩
/-- A byte, as a cell. -/
def encU (n : Int) : List PV := [.i .u8 n]
def bearsK (s : Int) : Int := if s = 1 then 9 else if s = 2 ∨ s = 3 ∨ s = 4 ∨ s = 5 ∨ s = 6 ∨ s = 18 ∨ s = 19 ∨ s = 20 ∨ s = 23 ∨ s = 24 ∨ s = 25 ∨ s = 27 then 1 else 0
def bAt (b : List Int) (i : Nat) : Int := b[i]?.getD 0
/-- A number's bytes, as the program takes them. -/
def numStep (u x : Int) (k : Nat) : Int := ofU .u64 (Nat.lor (toU .u64 u) (toU .u64 (awrap .u64 (awrap .u64 x * pow2 (8 * k)))))
def numF (b : List Int) (i : Nat) : Nat → Int
  | 0 => 0
  | k + 1 => numStep (numF b i k) (bAt b (i + k)) k
def numK (b : List Int) (i : Nat) : Int := awrap .i64 (numF b i 8)
/-- One instruction, and what is wrong. -/
def readS (num : List Int → Nat → Int) (b : List Int) (p : Nat) : KOp × Int :=
  if 29 < bAt b p then (.nil, 10)
  else if (b.length : Int) - ((p : Int) + 1) < bearsK (bAt b p) then (.nil, 8)
  else (⟨p, (p : Int) + 1 + bearsK (bAt b p), bAt b p, if 0 < bearsK (bAt b p) then bAt b (p + 1) else 0, if bAt b p = 1 then num b (p + 2) else 0⟩, 0)
def nextN (b : List Int) (p : Nat) : Nat := p + 1 + (bearsK (bAt b p)).toNat
def allF (num : List Int → Nat → Int) (b : List Int) : Nat → Nat → List KOp → List KOp × Int
  | 0, _, acc => (acc, 0)
  | f + 1, p, acc => if p < b.length then (if (readS num b p).2 = 0 then allF num b f (nextN b p) (acc ++ [(readS num b p).1]) else ([], (readS num b p).2)) else (acc, 0)
def allS (num : List Int → Nat → Int) (b : List Int) : List KOp × Int := allF num b b.length 0 []
/-- A value of a kind. -/
def wrapK (k n : Int) : Int := if k = 1 then (if n = 0 then 0 else 1) else if k = 2 then awrap .u8 n else if k = 3 then awrap .u16 n else if k = 4 then awrap .i16 n else if k = 5 then awrap .i32 n else if k = 6 then n else 0
def valueK (k : Int) : Bool := decide (1 ≤ k) && decide (k ≤ 6)
def PCell.nil : PCell := ⟨[], 0, false, 0, 0, 0⟩
/-- What the program is beside the function. -/
structure KEnv where
  cells : List PCell
  nc : Int
  nf : Int
def cellK (l : List PCell) (a : Int) : PCell := (l[a.toNat]?).getD .nil
def bearsE (E : KEnv) (o : KOp) : Int :=
  if o.sign = 1 then (if valueK o.a = true then (if wrapK o.a o.n = o.n then 0 else 11) else 3)
  else if o.sign = 23 then (if valueK o.a = true then 0 else 3)
  else if o.sign = 2 then (if E.nc ≤ o.a then 2 else 0)
  else if o.sign = 20 then (if E.nf ≤ o.a then 20 else 0)
  else if o.sign = 24 then (if 4 ≤ o.a then 1 else 0)
  else if o.sign = 25 then (if 4 ≤ o.a then 1 else 0)
  else if o.sign = 3 then (if (E.cells.length : Int) ≤ o.a then 12 else 0)
  else if o.sign = 4 then (if (E.cells.length : Int) ≤ o.a then 12 else 0)
  else if o.sign = 5 then (if (cellK E.cells o.a).len = 0 then 12 else 0)
  else if o.sign = 6 then (if (cellK E.cells o.a).len = 0 then 12 else 0)
  else if o.sign = 27 then (if (cellK E.cells o.a).block = 0 then 12 else 0)
  else 0
/-- Two are taken of any kind. -/
def twoK (s : Int) : Bool := (decide (7 ≤ s) && decide (s ≤ 14)) || decide (s = 16) || decide (s = 17) || decide (s = 28) || decide (s = 29)
def takesK (E : KEnv) (o : KOp) : List Int :=
  if o.sign = 4 then [(cellK E.cells o.a).kind]
  else if o.sign = 5 then [5]
  else if o.sign = 25 then [5]
  else if o.sign = 6 then [5, (cellK E.cells o.a).kind]
  else if o.sign = 19 then [1]
  else if o.sign = 21 then [0]
  else if o.sign = 22 then [0]
  else if o.sign = 23 then [0]
  else if o.sign = 15 then [0]
  else if twoK o.sign = true then [0, 0]
  else []
def bothK (a b : Int) (l : List Int) : Bool := decide (a = b) && decide (a ∈ l)
def kindR (made : Int) (fits : Bool) : Int × Int := if fits = true then (made, 0) else (0, 19)
def kindK (s a b : Int) : Int × Int :=
  if s = 7 ∨ s = 8 then kindR a (bothK a b [6] || bothK a b [4, 5])
  else if s = 9 ∨ s = 10 ∨ s = 11 then kindR a (bothK a b [4, 5])
  else if s = 12 ∨ s = 13 ∨ s = 14 then kindR a (bothK a b [1, 2, 3])
  else if s = 16 then kindR 1 (bothK a b [1, 2, 3, 4, 5, 6])
  else if s = 17 then kindR 1 (bothK a b [2, 3, 4, 5, 6])
  else if s = 28 ∨ s = 29 then kindR a (decide (b = 5) && (decide (a = 2) || decide (a = 3)))
  else (0, 3)
def putsK (E : KEnv) (o : KOp) (t : List Int) : List Int × Int :=
  if o.sign = 1 then ([o.a], 0)
  else if o.sign = 23 then ([o.a], 0)
  else if o.sign = 2 then ([5], 0)
  else if o.sign = 24 then ([5], 0)
  else if o.sign = 3 then ([(cellK E.cells o.a).kind], 0)
  else if o.sign = 5 then ([(cellK E.cells o.a).kind], 0)
  else if o.sign = 26 then ([6], 0)
  else if o.sign = 21 then ([bAt t 0, bAt t 0], 0)
  else if o.sign = 15 then (if 3 < bAt t 0 then ([], 19) else (t, 0))
  else if twoK o.sign = true then ([(kindK o.sign (bAt t 0) (bAt t 1)).1], (kindK o.sign (bAt t 0) (bAt t 1)).2)
  else ([], 0)
/-- Are the kinds those that are taken? 0: any. -/
def fitsK : List Int → List Int → Bool
  | k :: l, x :: m => (decide (k = 0) || decide (k = x)) && fitsK l m
  | _, _ => true
def stepK (E : KEnv) (o : KOp) (s : List Int) : List Int × Int :=
  if bearsE E o ≠ 0 then ([], bearsE E o)
  else if s.length < (takesK E o).length then ([], 18)
  else if fitsK (takesK E o) (s.drop (s.length - (takesK E o).length)) = false then ([], 19)
  else if (putsK E o (s.drop (s.length - (takesK E o).length))).2 ≠ 0 then ([], (putsK E o (s.drop (s.length - (takesK E o).length))).2)
  else if 8 < s.length - (takesK E o).length + (putsK E o (s.drop (s.length - (takesK E o).length))).1.length then ([], 18)
  else (s.take (s.length - (takesK E o).length) ++ (putsK E o (s.drop (s.length - (takesK E o).length))).1, 0)
def onK (o : KOp) : List Int := if o.sign = 0 then [] else if o.sign = 18 then [o.a] else if o.sign = 19 then [o.next, o.a] else [o.next]
/-! ## Maps -/
def mget {α : Type} : List (Int × α) → Int → Option α
  | [], _ => none
  | (k', v) :: l, k => if k = k' then some v else mget l k
def mput {α : Type} : List (Int × α) → Int → α → List (Int × α)
  | [], k, v => [(k, v)]
  | (k', w) :: l, k, v => if k = k' then (k', v) :: l else (k', w) :: mput l k v
/-! ## The going through -/
structure KW where
  ats : List (Int × (Bool × List Int))
  dones : List (Int × Bool)
  high : Int
def joinK (m : List (Int × (Bool × List Int))) (k : Int) (s : List Int) : List (Int × (Bool × List Int)) × Int :=
  match mget m k with
  | none => (mput m k (false, s), 0)
  | some w => if w.2.length ≠ s.length then (m, 18) else if w.2 ≠ s then (m, 19) else (m, 0)
def joinsK (m : List (Int × (Bool × List Int))) (s : List Int) : List Int → List (Int × (Bool × List Int)) × Int
  | [] => (m, 0)
  | k :: l => if (joinK m k s).2 ≠ 0 then joinK m k s else joinsK (joinK m k s).1 s l
def readyK (w : KW) (p : Nat) : Bool := (mget w.ats p).isSome && !((mget w.dones p).getD false)
def nextK (w : KW) : Nat → Nat → Option Nat
  | 0, _ => none
  | n + 1, p => if readyK w p = true then some p else nextK w n (p + 1)
def opAt (ops : List (Int × KOp)) (k : Int) : KOp := (mget ops k).getD .nil
def stAt (w : KW) (k : Int) : Bool × List Int := (mget w.ats k).getD (true, [])
def maxK (a b : Int) : Int := if a < b then b else a
def throughK (E : KEnv) (size : Nat) (ops : List (Int × KOp)) (w : KW) (k : Int) : KW × Int :=
  if (stepK E (opAt ops k) (stAt w k).2).2 ≠ 0 then (⟨w.ats, mput w.dones k true, w.high⟩, (stepK E (opAt ops k) (stAt w k).2).2)
  else if (size : Int) ∈ onK (opAt ops k) then (⟨w.ats, mput w.dones k true, maxK (maxK w.high ((stAt w k).2.length : Int)) ((stepK E (opAt ops k) (stAt w k).2).1.length : Int)⟩, 17)
  else (⟨(joinsK w.ats (stepK E (opAt ops k) (stAt w k).2).1 (onK (opAt ops k))).1, mput w.dones k true, maxK (maxK w.high ((stAt w k).2.length : Int)) ((stepK E (opAt ops k) (stAt w k).2).1.length : Int)⟩,
    (joinsK w.ats (stepK E (opAt ops k) (stAt w k).2).1 (onK (opAt ops k))).2)
def goK (E : KEnv) (size : Nat) (ops : List (Int × KOp)) : Nat → KW → Option (Int × Int)
  | 0, _ => none
  | f + 1, w => match nextK w size 0 with
    | none => some (w.high, 0)
    | some p => if (throughK E size ops w p).2 ≠ 0 then some (0, (throughK E size ops w p).2) else goK E size ops f (throughK E size ops w p).1
def opsK (l : List KOp) : List (Int × KOp) := l.foldl (fun m o => mput m o.pos o) []
def badJump (ops : List (Int × KOp)) (o : KOp) : Bool := (mget ops o.a).isNone && (decide (o.sign = 18) || decide (o.sign = 19))
def funcK (E : KEnv) (b : List Int) : Option (Int × Int) :=
  if (allS numK b).2 ≠ 0 then some (0, (allS numK b).2)
  else if (allS numK b).1.any (badJump (opsK (allS numK b).1)) = true then some (0, 17)
  else if (allS numK b).1.length = 0 then some (0, 17)
  else goK E b.length (opsK (allS numK b).1) (b.length + 1) ⟨[(0, (true, []))], [], 0⟩
end Go.Av
end
section
/- Contracts (seat c6): numbers, signs, a byte, a number of bytes. -/
namespace Go.Av
theorem within_ok (a n : Int) (hn : 0 < n) (hn2 : n ≤ 4611686018427387904) : iso (PC pfs) 10 [.i .i64 a, .i .i64 n] = some (.i .i64 (a % n)) := by
  unfold iso
  rw [PC_eq (F := pf10) rfl]
  have h0 : n ≠ 0 := by omega
  have h1 : a.tmod n < n := Int.tmod_lt_of_pos a hn
  have h2 : -n < a.tmod n := by
    have := Int.tmod_lt_of_pos (-a) hn
    rw [Int.neg_tmod] at this
    omega
  have h3 : a % n = if a.tmod n < 0 then a.tmod n + n else a.tmod n := by
    have e := Int.mul_tdiv_add_tmod a n
    have e2 : a % n = a.tmod n % n := by
      have : (n * a.tdiv n + a.tmod n) % n = a.tmod n % n := Int.mul_add_emod_self_left ..
      rwa [e] at this
    rw [e2]
    split
    · rw [← Int.emod_eq_of_lt (a := a.tmod n + n) (b := n) (by omega) (by omega)]
      simp
    · exact Int.emod_eq_of_lt (by omega) h1
  by_cases h : a.tmod n < 0
  · simp [pf10, h0, h, h3]
    exact awrap_id (by omega) (by omega)
  · simp [pf10, h0, h, h3]
theorem wrap_rng (k : IntKind) (n : Int) (hk : k = .u8 ∨ k = .u16 ∨ k = .i16 ∨ k = .i32) : awrap .i64 (awrap k n) = awrap k n := by
  have : -9223372036854775808 ≤ awrap k n ∧ awrap k n < 9223372036854775808 := by
    rw [awrap_eq]
    rcases hk with rfl | rfl | rfl | rfl <;> simp [IntKind.wrap, IntKind.signed, IntKind.bits] <;> (try split) <;> omega
  exact awrap_id this.1 this.2
theorem wrap_ok (k n : Int) : iso (PC pfs) 64 [.i .i64 k, .i .i64 n] = some (.i .i64 (wrapK k n)) := by
  unfold iso
  rw [PC_eq (F := pf64) rfl]
  by_cases h1 : k = 1
  · by_cases hn : n = 0 <;> simp [pf64, h1, hn, wrapK]
  · by_cases h2 : k = 2
    · simp [pf64, h2, wrapK, wrap_rng]
    · by_cases h3 : k = 3
      · simp [pf64, h3, wrapK, wrap_rng]
      · by_cases h4 : k = 4
        · simp [pf64, h4, wrapK, wrap_rng]
        · by_cases h5 : k = 5
          · simp [pf64, h5, wrapK, wrap_rng]
          · by_cases h6 : k = 6
            · simp [pf64, h6, wrapK]
            · simp [pf64, h1, h2, h3, h4, h5, h6, wrapK]
theorem rwrap_ok (k n : Int) : iso (PC pfs) 17 [.i .i64 k, .i .i64 n] = some (.i .i64 (wrapK k n)) := by
  unfold iso
  rw [PC_eq (F := pf17) rfl]
  by_cases h1 : k = 1
  · by_cases hn : n = 0 <;> simp [pf17, h1, hn, wrapK]
  · by_cases h2 : k = 2
    · simp [pf17, h2, wrapK, wrap_rng]
    · by_cases h3 : k = 3
      · simp [pf17, h3, wrapK, wrap_rng]
      · by_cases h4 : k = 4
        · simp [pf17, h4, wrapK, wrap_rng]
        · by_cases h5 : k = 5
          · simp [pf17, h5, wrapK, wrap_rng]
          · by_cases h6 : k = 6
            · simp [pf17, h6, wrapK]
            · simp [pf17, h1, h2, h3, h4, h5, h6, wrapK]
theorem cvalue_ok (k : Int) : iso (PC pfs) 63 [.i .i64 k] = some (.b (valueK k)) := by
  unfold iso
  rw [PC_eq (F := pf63) rfl]
  by_cases h : 1 ≤ k <;> simp [pf63, h, valueK]
theorem rvalue_ok (k : Int) : iso (PC pfs) 41 [.i .i64 k] = some (.b (valueK k)) := by
  unfold iso
  rw [PC_eq (F := pf41) rfl]
  by_cases h : 1 ≤ k <;> simp [pf41, h, valueK]
/-- A sign. -/
theorem sgn {s : Int} (h0 : 0 ≤ s) (h1 : s ≤ 29) : s = 0 ∨ s = 1 ∨ s = 2 ∨ s = 3 ∨ s = 4 ∨ s = 5 ∨ s = 6 ∨ s = 7 ∨ s = 8 ∨ s = 9 ∨ s = 10 ∨ s = 11 ∨ s = 12 ∨ s = 13 ∨ s = 14 ∨ s = 15 ∨ s = 16 ∨ s = 17 ∨ s = 18 ∨ s = 19 ∨ s = 20 ∨ s = 21 ∨ s = 22 ∨ s = 23 ∨ s = 24 ∨ s = 25 ∨ s = 26 ∨ s = 27 ∨ s = 28 ∨ s = 29 := by omega
theorem ibears_ok (s : Int) (h0 : 0 ≤ s) (h1 : s ≤ 29) : iso (PC pfs) 46 [.i .i64 s] = some (.i .i64 (bearsK s)) := by
  unfold iso
  rw [PC_eq (F := pf46) rfl]
  rcases sgn h0 h1 with rfl | rfl | rfl | rfl | rfl | rfl | rfl | rfl | rfl | rfl | rfl | rfl | rfl | rfl | rfl | rfl | rfl | rfl | rfl | rfl | rfl | rfl | rfl | rfl | rfl | rfl | rfl | rfl | rfl | rfl <;> simp [-prunOps, pf46, bearsK, awrap_id]
theorem rbears_ok (s : Int) (h0 : 0 ≤ s) (h1 : s ≤ 29) : iso (PC pfs) 29 [.i .i64 s] = some (.i .i64 (bearsK s)) := by
  unfold iso
  rw [PC_eq (F := pf29) rfl]
  rcases sgn h0 h1 with rfl | rfl | rfl | rfl | rfl | rfl | rfl | rfl | rfl | rfl | rfl | rfl | rfl | rfl | rfl | rfl | rfl | rfl | rfl | rfl | rfl | rfl | rfl | rfl | rfl | rfl | rfl | rfl | rfl | rfl <;> simp [-prunOps, pf29, bearsK, awrap_id]
end Go.Av
end
section
/- Contracts (seat c6): instr.Read. -/
namespace Go.Av
@[simp high] theorem flat_lenU (l : List Int) : (l.flatMap encU).length = l.length := by rw [flat_len (enc := encU) (k := 1) (fun _ => rfl) l]; omega
theorem shutU (l : List Int) : ShutL (l.flatMap encU) := flat_shut (fun a => by simp [ShutL, encU, Shut]) l
theorem U_at (i : Nat) (l : List Int) (h : i < l.length) : pget (l.flatMap encU) i = some (.i .u8 (bAt l i)) := by
  have := flat_get (enc := encU) (k := 1) (fun _ => rfl) l i l[i] (by simp [h]) 0 (by omega)
  simpa [encU, bAt, h] using this
@[simp] theorem pg0 (a : PV) (l : List PV) : pget (a :: l) 0 = some a := rfl
@[simp] theorem pgs (a : PV) (l : List PV) (n : Nat) : pget (a :: l) (n + 1) = pget l n := rfl
@[simp] theorem psub_0 (l : List PV) : psub l 0 0 = some [] := by simp [psub]
@[simp] theorem psub_c (a : PV) (l : List PV) (n : Nat) : psub (a :: l) 0 (n + 1) = (psub l 0 n).map (a :: ·) := by
  unfold psub
  by_cases h : 0 + n ≤ l.length
  · rw [if_pos h, if_pos (by simp; omega)]; simp
  · rw [if_neg h, if_neg (by simp; omega)]; rfl
@[simp] theorem psub_s (a : PV) (l : List PV) (o n : Nat) : psub (a :: l) (o + 1) n = psub l o n := by
  unfold psub
  by_cases h : o + n ≤ l.length
  · rw [if_pos h, if_pos (by simp; omega)]; simp
  · rw [if_neg h, if_neg (by simp; omega)]
@[simp] theorem pspl_0 (l : List PV) : psplice l 0 [] = some l := by simp [psplice]
@[simp] theorem pspl_c (a x : PV) (l vs : List PV) : psplice (a :: l) 0 (x :: vs) = (psplice l 0 vs).map (x :: ·) := by
  unfold psplice
  by_cases h : 0 + vs.length ≤ l.length
  · rw [if_pos h, if_pos (by simp; omega)]; simp
  · rw [if_neg h, if_neg (by simp; omega)]; rfl
@[simp] theorem pspl_s (a : PV) (l vs : List PV) (o : Nat) : psplice (a :: l) (o + 1) vs = (psplice l o vs).map (a :: ·) := by
  unfold psplice
  by_cases h : o + vs.length ≤ l.length
  · rw [if_pos h, if_pos (by simp; omega)]
    have e : o + 1 + vs.length = (o + vs.length) + 1 := by omega
    simp [e]
  · rw [if_neg h, if_neg (by simp; omega)]; rfl
/-- Bytes. -/
def Bytes (b : List Int) : Prop := ∀ x ∈ b, 0 ≤ x ∧ x < 256
theorem bAt_rng {b : List Int} (h : Bytes b) (i : Nat) : 0 ≤ bAt b i ∧ bAt b i < 256 := by
  unfold bAt
  by_cases hi : i < b.length
  · simp [hi]; exact h _ (by simp)
  · simp [List.getElem?_eq_none (Nat.le_of_not_lt hi)]
theorem awrap_byte {b : List Int} (h : Bytes b) (i : Nat) : awrap .i64 (bAt b i) = bAt b i := by
  have := bAt_rng h i
  exact awrap_id (by omega) (by omega)
/-- Where the bytes lie that are read: the decoder is object 1. -/
def stR (t : Bool) (b : List Int) (x : PObj) (l : List PObj) (p : Nat) : PH := ⟨x :: .cells [.ls (.v t false) b.length (b.flatMap encU), .i .i64 (p : Nat)] 0 :: l, 0, [], 0⟩
theorem byte_ok (t : Bool) (b : List Int) (hb : Bytes b) (x : PObj) (l : List PObj) (p : Nat) (hp : p < b.length) (hl : b.length ≤ 1073741824) :
    PC pfs 45 [.p 1 0] (stR t b x l p) = some (.i .i64 (bAt b p), stR t b x l (p + 1)) := by
  rw [PC_eq (F := pf45) rfl]
  have hw := awrap_byte hb p
  have h1 : awrap .i64 ((p : Int) + 1) = (p : Int) + 1 := awrap_id (by omega) (by omega)
  have h2 : awrap .i64 ((p : Int) + 1 - 1) = (p : Int) := by rw [awrap_id (by omega) (by omega)]; omega
  have h3 : (p : Int) + 1 - 1 = (p : Int) := by omega
  have h4 : awrap .i64 (p : Int) = (p : Int) := awrap_id (by omega) (by omega)
  simp [-prunOps, pf45, stR, h1, h3, h4, hp, U_at p b hp, hw]
def stN (t : Bool) (b : List Int) (x : PObj) (l : List PObj) (p : Nat) (i : Nat) (u : PV × PV) : PSt := ⟨[.p 1 0, .i .i64 0, .i .u64 (numF b p i), u.1, .i .i64 (i : Nat), u.2], stR t b x l (p + i)⟩
theorem number_ok (t : Bool) (b : List Int) (hb : Bytes b) (x : PObj) (l : List PObj) (p : Nat) (hp : p + 8 ≤ b.length) (hl : b.length ≤ 1073741824) :
    PC pfs 47 [.p 1 0] (stR t b x l p) = some (.i .i64 (numK b p), stR t b x l (p + 8)) := by
  rw [PC_eq (F := pf47) rfl]
  have key := @for_loop (pdenL (PC pfs) lp47_1) (PV × PV) 0 (stN t b x l p) (stN t b x l p 8) 8 ?_ ?_ (.und, .und)
  · obtain ⟨t', h⟩ := key
    simp [stN, numF] at h
    simp [-prunOps, pf47, numK, numF, h]
  · intro i hi u
    have hy := byte_ok t b hb x l (p + i) (by omega) hl
    refine ⟨(.i .i64 (i : Nat), .b true), ?_⟩
    have hi' : (i : Int) < 8 := by omega
    have h1 : awrap .i64 (8 * (i : Int)) = ((8 * i : Nat) : Int) := by rw [awrap_id (by omega) (by omega)]; simp
    have h2 : ¬ ((8 : Int) * (i : Int) < 0) := by omega
    have h3 : Nat.min (8 * i) 64 = 8 * i := by show min (8 * i) 64 = 8 * i; omega
    have h4 : (8 * (i : Int)).toNat = 8 * i := by omega
    simp [-prunOps, stN, lp47_1, hi', hy, awrap_nat1 (n := i) (by omega), h1, h2, h3, h4, kBits, numF, numStep, Nat.add_assoc]
  · intro u
    refine ⟨(u.1, .b false), ?_⟩
    simp [-prunOps, stN, lp47_1]
end Go.Av
end
section
/- Contracts (seat c6): instr.Read. -/
namespace Go.Av
theorem bearsK_cases (s : Int) : bearsK s = 0 ∨ bearsK s = 1 ∨ (bearsK s = 9 ∧ s = 1) := by
  unfold bearsK
  by_cases h : s = 1
  · exact .inr (.inr ⟨if_pos h, h⟩)
  · rw [if_neg h]
    by_cases h2 : s = 2 ∨ s = 3 ∨ s = 4 ∨ s = 5 ∨ s = 6 ∨ s = 18 ∨ s = 19 ∨ s = 20 ∨ s = 23 ∨ s = 24 ∨ s = 25 ∨ s = 27
    · exact .inr (.inl (if_pos h2))
    · exact .inl (if_neg h2)
theorem iread_ok (t : Bool) (b : List Int) (hb : Bytes b) (p : Nat) (hp : p < b.length) (hl : b.length ≤ 1073741824) :
    iso (PC pfs) 30 [.ls (.v t false) b.length (b.flatMap encU), .i .i64 (p : Nat)] = some (.tup [.agg (readS numK b p).1.enc, .i .i64 (readS numK b p).2]) := by
  unfold iso
  rw [PC_eq (F := pf30) rfl]
  have hr := bAt_rng hb p
  have hc : ¬ ((b.length : Int) ≤ (p : Int)) := by omega
  have hn : ¬ ((p : Int) < 0) := by omega
  have hy := fun x l => byte_ok t b hb x l p hp hl
  simp only [stR] at hy
  by_cases h29 : 29 < bAt b p
  · simp [-prunOps, pf30, hc, hn, hy, h29, readS, KOp.enc, KOp.nil]
  · have hbe := ibears_ok (bAt b p) hr.1 (by omega)
    have hb0 := bearsK_cases (bAt b p)
    have e1 : ((p + 1 : Nat) : Int) = (p : Int) + 1 := by omega
    have hs : awrap .i64 ((b.length : Int) - ((p : Int) + 1)) = (b.length : Int) - ((p : Int) + 1) := awrap_id (by omega) (by omega)
    by_cases hcut : (b.length : Int) - ((p : Int) + 1) < bearsK (bAt b p)
    · simp [-prunOps, pf30, hc, hn, hy, h29, hbe, readS, KOp.enc, KOp.nil, e1, hs, hcut]
    · rcases hb0 with h0 | h0 | ⟨h0, h1⟩
      · have hne : bAt b p ≠ 1 := by intro e; rw [e] at h0; simp [bearsK] at h0
        rw [h0] at hbe hcut
        simp [-prunOps, pf30, hc, hn, hy, h29, hbe, readS, KOp.enc, KOp.nil, e1, hs, hcut, h0, hne]
      · have hne : bAt b p ≠ 1 := by intro e; rw [e] at h0; simp [bearsK] at h0
        have hy2 := fun x l => byte_ok t b hb x l (p + 1) (by omega) hl
        simp only [stR] at hy2
        rw [h0] at hbe hcut
        have e2 : ((p + 1 + 1 : Nat) : Int) = (p : Int) + 1 + 1 := by omega
        simp only [e1, e2] at hy2 hy
        simp [-prunOps, pf30, hc, hn, hy, h29, hbe, readS, KOp.enc, KOp.nil, hs, hcut, h0, hne, hy2]
      · have hy2 := fun x l => byte_ok t b hb x l (p + 1) (by omega) hl
        have hy3 := fun x l => number_ok t b hb x l (p + 2) (by omega) hl
        simp only [stR] at hy2 hy3
        rw [h1] at h0 hbe hcut
        rw [h0] at hbe hcut
        rw [h1] at hy
        have e2 : ((p + 1 + 1 : Nat) : Int) = (p : Int) + 2 := by omega
        have e3 : ((p + 2 : Nat) : Int) = (p : Int) + 2 := by omega
        have e4 : ((p + 2 + 8 : Nat) : Int) = (p : Int) + 1 + 9 := by omega
        simp only [e1, e2, e3, e4] at hy2 hy hy3
        simp [-prunOps, pf30, hc, hn, hy, h1, hbe, readS, KOp.enc, KOp.nil, hs, hcut, h0, hy2, hy3]
end Go.Av
end
section
/- Contracts (seat c6): slices.Clone, instr.All. -/
namespace Go.Av
theorem clone_ok {f ez bytes : Nat} {z : List AV} (hf : pfs f = some (cloneP ez bytes z)) (b : Bool) (n : Nat) (cs : List PV) (hc : ShutL cs) (hl : cs.length = n * ez) (hn : n ≤ 1073741824) (hby : bytes ≤ 1024) :
    iso (PC pfs) f [.ls (.v b false) n cs] = some (.ls (.v false false) n cs) := by
  unfold iso
  rw [PC_eq hf]
  cases n with
  | zero =>
    have : cs = [] := by simpa using hl
    subst this
    simp [-prunOps, cloneP]
  | succ n =>
    have h1 : psub cs 0 ((n + 1) * ez) = some cs := psub_all hl
    have h2 := pan_view (σ := ⟨[], 0, [], 0⟩) (ez := ez) (bytes := bytes) (n := n + 1) (sn := 0) (b := false) (cs := []) (new := cs) (by simp) (by omega) hby (.inl rfl)
    simp at h2
    simp [-prunOps, cloneP, h1, clo_shutL hc, h2]
@[simp high] theorem flat_lenO (l : List KOp) : (l.flatMap KOp.enc).length = l.length * 5 := flat_len (enc := KOp.enc) (k := 5) (fun _ => rfl) l
theorem shutO (l : List KOp) : ShutL (l.flatMap KOp.enc) := flat_shut (fun a => by simp [ShutL, KOp.enc, Shut]) l
theorem O_at (i : Nat) (l : List KOp) (h : i < l.length) : psub (l.flatMap KOp.enc) (i * 5) 5 = some l[i].enc :=
  flat_sub (enc := KOp.enc) (k := 5) (fun _ => rfl) l i l[i] (by simp [h])
/-! ## Objects -/
@[simp] theorem getO_app (g : List PObj) (x : PObj) (l : List PObj) : getO (g ++ x :: l) g.length = x := by
  induction g with
  | nil => rfl
  | cons a g ih => exact ih
@[simp] theorem setO_app (g : List PObj) (x y : PObj) (l : List PObj) : setO (g ++ x :: l) g.length y = g ++ y :: l := by
  induction g with
  | nil => rfl
  | cons a g ih => exact congrArg (a :: ·) ih
@[simp] theorem app_nil_cons (g : List PObj) (x : PObj) (l : List PObj) : (g ++ [x]) ++ l = g ++ x :: l := by simp
theorem readS_next {num : List Int → Nat → Int} {b : List Int} {p : Nat} (h : (readS num b p).2 = 0) : (readS num b p).1.next = ((nextN b p : Nat) : Int) := by
  have h0 := bearsK_cases (bAt b p)
  unfold readS at h ⊢
  split
  · rename_i h1; rw [if_pos h1] at h; cases h
  · rename_i h1; rw [if_neg h1] at h
    split
    · rename_i h2; rw [if_pos h2] at h; cases h
    · show (p : Int) + 1 + bearsK (bAt b p) = _
      unfold nextN; omega
def iallR (B v1 : PV) (r : List KOp × Int) (x : Ex × PSt) : Prop :=
  (r.2 = 0 ∧ ∃ (at_ : Int) (u5 u6 u7 u8 : PV) (g : List PObj), x = (.exit 0, ⟨[B, v1, .i .i64 0, .ls (.own 0 r.1.length) r.1.length (r.1.flatMap KOp.enc), .i .i64 at_, u5, u6, u7, u8], ⟨g, 0, [.live r.1.length r.1.length 5], 0⟩⟩)) ∨
  (r.2 ≠ 0 ∧ r.1 = [] ∧ ∃ (v3 v4 u5 u6 u7 u8 : PV) (σ : PH), x = (.ret, ⟨[B, nil, .i .i64 r.2, v3, v4, u5, u6, u7, u8], σ⟩))
theorem iall_loop (t : Bool) (b : List Int) (hb : Bytes b) (hl : b.length ≤ 1000000) (v1 : PV) : ∀ (f p : Nat) (acc : List KOp) (u5 u6 u7 u8 : PV) (g : List PObj), b.length ≤ f + p → acc.length ≤ p →
    ∃ x, piterL (pdenL (PC pfs) lp18_1) ⟨[.ls (.v t false) b.length (b.flatMap encU), v1, .i .i64 0, .ls (.own 0 acc.length) acc.length (acc.flatMap KOp.enc), .i .i64 (p : Nat), u5, u6, u7, u8], ⟨g, 0, [.live acc.length acc.length 5], 0⟩⟩ = some x
      ∧ iallR (.ls (.v t false) b.length (b.flatMap encU)) v1 (allF numK b f p acc) x := by
  have hend : ∀ (f p : Nat) (acc : List KOp) (u5 u6 u7 u8 : PV) (g : List PObj), b.length ≤ p →
      ∃ x, piterL (pdenL (PC pfs) lp18_1) ⟨[.ls (.v t false) b.length (b.flatMap encU), v1, .i .i64 0, .ls (.own 0 acc.length) acc.length (acc.flatMap KOp.enc), .i .i64 (p : Nat), u5, u6, u7, u8], ⟨g, 0, [.live acc.length acc.length 5], 0⟩⟩ = some x
        ∧ iallR (.ls (.v t false) b.length (b.flatMap encU)) v1 (acc, 0) x := by
    intro f p acc u5 u6 u7 u8 g h
    have hc : ¬ ((p : Int) < (b.length : Int)) := by omega
    refine ⟨_, ?_, .inl ⟨rfl, p, u5, u6, .b false, u8, g, rfl⟩⟩
    rw [piterL_eq]
    simp [-prunOps, lp18_1, hc]
  intro f
  induction f with
  | zero =>
    intro p acc u5 u6 u7 u8 g h _
    exact hend 0 p acc u5 u6 u7 u8 g (by omega)
  | succ f ih =>
    intro p acc u5 u6 u7 u8 g h hap
    by_cases hp : p < b.length
    · have hr := iread_ok t b hb p hp (by omega)
      have hc : (p : Int) < (b.length : Int) := by omega
      simp only [allF, if_pos hp]
      by_cases he : (readS numK b p).2 = 0
      · rw [if_pos he]
        have hx := readS_next (num := numK) he
        rw [he] at hr
        have ha := pan_flat (enc := KOp.enc) (k := 5) (bytes := 40) (r := 0) (v := acc.length) (n := acc.length) (σ := ⟨g ++ [.cells (readS numK b p).1.enc 0], 0, [.live acc.length acc.length 5], 0⟩) (fun _ => rfl) (by omega) acc (acc ++ [(readS numK b p).1]) (readS numK b p).1 rfl rfl rfl (by omega) (by omega)
        obtain ⟨x, h1, h2⟩ := ih (nextN b p) (acc ++ [(readS numK b p).1]) (.p g.length 0) (.i .i64 0) (.b true) (.b false) (g ++ [.cells (readS numK b p).1.enc 0]) (by unfold nextN; omega) (by unfold nextN; simp; omega)
        refine ⟨x, ?_, h2⟩
        rw [piterL_eq, ← h1]
        rw [← hx] 
        have e5 : (readS numK b p).1.enc = [.i .i64 (readS numK b p).1.pos, .i .i64 (readS numK b p).1.next, .i .i64 (readS numK b p).1.sign, .i .i64 (readS numK b p).1.a, .i .i64 (readS numK b p).1.n] := rfl
        generalize readS numK b p = o at *
        rw [e5] at ha hr ⊢
        simp at ha
        simp [-prunOps, lp18_1, hc, hr]
        simp [-prunOps, ha]
      · rw [if_neg he]
        refine ⟨_, ?_, .inr ⟨he, rfl, .ls (.own 0 acc.length) acc.length (acc.flatMap KOp.enc), .i .i64 (p : Nat), .p g.length 0, .i .i64 (readS numK b p).2, .b true, .b true, ⟨g ++ [.cells (readS numK b p).1.enc 0], 0, [.live acc.length acc.length 5], 0⟩, rfl⟩⟩
        rw [piterL_eq]
        have e5 : (readS numK b p).1.enc = [.i .i64 (readS numK b p).1.pos, .i .i64 (readS numK b p).1.next, .i .i64 (readS numK b p).1.sign, .i .i64 (readS numK b p).1.a, .i .i64 (readS numK b p).1.n] := rfl
        generalize readS numK b p = o at *
        rw [e5] at hr ⊢
        simp [-prunOps, lp18_1, hc, hr, he]
    · simp only [allF, if_neg hp]
      exact hend (f + 1) p acc u5 u6 u7 u8 g (by omega)
theorem allF_len {num : List Int → Nat → Int} {b : List Int} : ∀ (f p : Nat) (acc : List KOp), b.length ≤ f + p → acc.length ≤ p → p ≤ b.length + 9 → (allF num b f p acc).1.length ≤ b.length + 9
  | 0, p, acc, h, h2, h3 => by simp only [allF]; omega
  | f + 1, p, acc, h, h2, h3 => by
    simp only [allF]
    split
    · split
      · have := bearsK_cases (bAt b p)
        exact allF_len f _ _ (by unfold nextN; omega) (by unfold nextN; simp; omega) (by unfold nextN; omega)
      · simp
    · show acc.length ≤ _; omega
theorem iall_ok (t : Bool) (b : List Int) (hb : Bytes b) (hl : b.length ≤ 1000000) :
    iso (PC pfs) 18 [.ls (.v t false) b.length (b.flatMap encU)] = some (.tup [.ls (.v false false) (allS numK b).1.length ((allS numK b).1.flatMap KOp.enc), .i .i64 (allS numK b).2]) := by
  unfold iso
  rw [PC_eq (F := pf18) rfl]
  obtain ⟨x, h1, h2⟩ := iall_loop t b hb hl nil b.length 0 [] .und .und .und .und [] (by omega) (by simp)
  have hlen := allF_len (num := numK) (b := b) b.length 0 [] (by omega) (by simp) (by omega)
  have e : allF numK b b.length 0 [] = allS numK b := rfl
  rw [e] at h2 hlen
  generalize allS numK b = r at *
  simp at h1
  rcases h2 with ⟨he, k, u5, u6, u7, u8, g, hx⟩ | ⟨he, hn, v3, v4, u5, u6, u7, u8, σ, hx⟩
  · subst hx
    have hc := clone_ok (f := 31) (ez := 5) (bytes := 40) rfl true r.1.length (r.1.flatMap KOp.enc) (shutO r.1) (by simp) (by omega) (by omega)
    simp [-prunOps, pf18, h1, hc, he]
  · subst hx
    simp [-prunOps, pf18, h1, hn]
end Go.Av
end
section
/- Contracts (seat c6): cells, lists of numbers, kinds of operators. -/
namespace Go.Av
/-- A program, as its functions are handed it. -/
structure PX where
  b1 : Bool
  n1 : Nat
  c1 : List PV
  b2 : Bool
  n2 : Nat
  c2 : List PV
  b3 : Bool
  n3 : Nat
  c3 : List PV
  b4 : Bool
  cells : List PCell
def PX.env (x : PX) : KEnv := ⟨x.cells, x.n2, x.n3⟩
def PX.obj (x : PX) : List PV := [.ls (.v x.b1 false) x.n1 x.c1, .ls (.v x.b2 false) x.n2 x.c2, .ls (.v x.b3 false) x.n3 x.c3, .ls (.v x.b4 false) x.cells.length (x.cells.flatMap PCell.enc)]
def PX.pv (x : PX) : PV := .pls (.v true false) x.obj 0
theorem cell_ok (x : PX) (a : Int) (ha : 0 ≤ a) : iso (PC pfs) 62 [x.pv, .i .i64 a] = some (.agg (cellK x.cells a).enc) := by
  unfold iso
  rw [PC_eq (F := pf62) rfl]
  obtain ⟨n, rfl⟩ := Int.eq_ofNat_of_zero_le ha
  by_cases h : n < x.cells.length
  · have hc : ¬ ((x.cells.length : Int) ≤ (n : Int)) := by omega
    simp [-prunOps, pf62, PX.pv, PX.obj, hc, h, C_at n x.cells h, cellK, PCell.enc]
  · have hc : ((x.cells.length : Int) ≤ (n : Int)) := by omega
    simp [-prunOps, pf62, PX.pv, PX.obj, hc, cellK, List.getElem?_eq_none (Nat.le_of_not_lt h), PCell.enc, PCell.nil]
theorem place_ok (s : Int) (none_ : Bool) (c : PCell) : iso (PC pfs) 65 [.i .i64 s, .b none_, .agg c.enc] = some (.i .i64 (if s = 3 ∨ s = 4 then (if none_ = true then 12 else 0) else if s = 5 ∨ s = 6 then (if c.len = 0 then 12 else 0) else if s = 27 then (if c.block = 0 then 12 else 0) else 0)) := by
  unfold iso
  rw [PC_eq (F := pf65) rfl]
  by_cases a3 : s = 3
  · cases none_ <;> simp [-prunOps, pf65, a3, PCell.enc]
  · by_cases a4 : s = 4
    · cases none_ <;> simp [-prunOps, pf65, a4, PCell.enc]
    · by_cases a5 : s = 5
      · by_cases hl : c.len = 0 <;> simp [-prunOps, pf65, a5, PCell.enc, hl]
      · by_cases a6 : s = 6
        · by_cases hl : c.len = 0 <;> simp [-prunOps, pf65, a6, PCell.enc, hl]
        · by_cases a27 : s = 27
          · by_cases hl : c.block = 0 <;> simp [-prunOps, pf65, a27, PCell.enc, hl]
          · simp [-prunOps, pf65, a3, a4, a5, a6, a27, PCell.enc]
/-! ## Lists of numbers -/
def stX6 (b : Bool) (l : List Int) (x : Int) (v2 : PV) (i : Nat) (t : PV × PV × PV) : PSt := ⟨[.ls (.v b false) l.length (l.flatMap encI), .i .i64 x, v2, t.1, .i .i64 (l.length : Nat), .i .i64 (i : Nat), t.2.1, t.2.2], .empty⟩
theorem index_ok (b : Bool) (l : List Int) (x : Int) (hl : l.length ≤ 1073741824) : ∃ k : Int, iso (PC pfs) 56 [.ls (.v b false) l.length (l.flatMap encI), .i .i64 x] = some (.i .i64 k) ∧ (0 ≤ k ↔ x ∈ l) := by
  unfold iso
  rw [PC_eq (F := pf56) rfl]
  have key := @for_find (pdenL (PC pfs) lp56_1) (PV × PV × PV) 0 (stX6 b l x (.i .i64 0)) (stX6 b l x (.i .i64 0) l.length) (fun i => ∃ h : i < l.length, l[i] = x) (fun i t => stX6 b l x (.i .i64 (i : Nat)) i t) l.length ?_ ?_ ?_ (.und, .und, .und)
  · rcases key with ⟨i, hi, ⟨_, hp⟩, hj, t', h⟩ | ⟨hj, t', h⟩
    · refine ⟨i, ?_, by subst hp; simp⟩
      simp [stX6] at h
      simp [-prunOps, pf56, h]
    · refine ⟨-1, ?_, ?_⟩
      · simp [stX6] at h
        simp [-prunOps, pf56, h]
      · constructor
        · intro h; omega
        · intro h
          obtain ⟨j, hj1, hj2⟩ := List.getElem_of_mem h
          exact (hj j hj1 ⟨hj1, hj2⟩).elim
  · rintro i hi ⟨_, hp⟩ t
    refine ⟨(.i .i64 (i : Nat), .b true, .b true), ?_⟩
    simp [-prunOps, stX6, lp56_1, hi, I_at i l hi, hp]
  · intro i hi hp t
    have h1 : l[i] ≠ x := fun e => hp ⟨hi, e⟩
    have h2 : x ≠ l[i] := fun e => h1 e.symm
    refine ⟨(.i .i64 (i : Nat), .b true, .b false), ?_⟩
    simp [-prunOps, stX6, lp56_1, hi, I_at i l hi, h1, h2, awrap_nat1 (n := i) (by omega)]
  · intro t
    refine ⟨(t.1, .b false, t.2.2), ?_⟩
    simp [-prunOps, stX6, lp56_1]
theorem contains_ok (b : Bool) (l : List Int) (x : Int) (hl : l.length ≤ 1073741824) : iso (PC pfs) 38 [.ls (.v b false) l.length (l.flatMap encI), .i .i64 x] = some (.b (decide (x ∈ l))) := by
  obtain ⟨k, hk, hm⟩ := index_ok b l x hl
  unfold iso
  rw [PC_eq (F := pf38) rfl]
  by_cases h : x ∈ l
  · simp [-prunOps, pf38, hk, h, hm.2 h]
  · have h2 : ¬ 0 ≤ k := fun e => h (hm.1 e)
    simp [-prunOps, pf38, hk, h, h2]
def stE6 (a b : Bool) (l m : List Int) (v2 v4 : PV) (i : Nat) (t : PV × PV × PV) : PSt := ⟨[.ls (.v a false) l.length (l.flatMap encI), .ls (.v b false) m.length (m.flatMap encI), v2, t.1, v4, .i .i64 (l.length : Nat), .i .i64 (i : Nat), t.2.1, t.2.2], .empty⟩
theorem equal_ok (a b : Bool) (l m : List Int) (hl : l.length ≤ 1073741824) : iso (PC pfs) 57 [.ls (.v a false) l.length (l.flatMap encI), .ls (.v b false) m.length (m.flatMap encI)] = some (.b (decide (l = m))) := by
  unfold iso
  rw [PC_eq (F := pf57) rfl]
  by_cases hlm : l.length = m.length
  · have key := @for_find (pdenL (PC pfs) lp57_1) (PV × PV × PV) 0 (stE6 a b l m (.b false) (.b false)) (stE6 a b l m (.b false) (.b false) l.length) (fun i => l[i]? ≠ m[i]?) (fun i t => stE6 a b l m (.b false) (.b false) i t) l.length ?_ ?_ ?_ (.und, .und, .und)
    · rcases key with ⟨i, hi, hp, hj, t', h⟩ | ⟨hj, t', h⟩
      · have hne : l ≠ m := fun e => hp (by rw [e])
        simp [stE6] at h
        simp [-prunOps, pf57, hlm, hne]
        simp [hlm] at h
        simp [h]
      · have he : l = m := List.ext_getElem? fun i => by
          by_cases hi : i < l.length
          · exact Decidable.byContradiction (hj i hi)
          · rw [List.getElem?_eq_none (by omega), List.getElem?_eq_none (by omega)]
        subst he
        simp [stE6] at h
        simp [-prunOps, pf57, h]
    · intro i hi hp t
      have hm : i < m.length := by omega
      have : l[i] ≠ m[i] := by simpa [hi, hm] using hp
      refine ⟨(.i .i64 (i : Nat), .b true, .b true), ?_⟩
      simp [-prunOps, stE6, lp57_1, hi, hm, I_at i l hi, I_at i m hm, this]
    · intro i hi hp t
      have hm : i < m.length := by omega
      have : l[i] = m[i] := by simpa [hi, hm] using hp
      refine ⟨(.i .i64 (i : Nat), .b true, .b false), ?_⟩
      simp [-prunOps, stE6, lp57_1, hi, hm, I_at i l hi, I_at i m hm, this, awrap_nat1 (n := i) (by omega)]
    · intro t
      refine ⟨(t.1, .b false, t.2.2), ?_⟩
      simp [-prunOps, stE6, lp57_1]
  · have hne : l ≠ m := fun e => hlm (by rw [e])
    have hc : ¬ ((l.length : Int) = m.length) := by omega
    simp [-prunOps, pf57, hc, hne]
theorem both_ok (a b : Int) (l : List Int) (hl : l.length ≤ 1073741824) : iso (PC pfs) 70 [.i .i64 a, .i .i64 b, .ls (.v false false) l.length (l.flatMap encI)] = some (.b (decide (a = b) && decide (a ∈ l))) := by
  have hc := contains_ok false l a hl
  unfold iso
  rw [PC_eq (F := pf70) rfl]
  by_cases h : a = b
  · simp [-prunOps, pf70, h]
    subst h
    simp [-prunOps, hc]
  · simp [-prunOps, pf70, h]
end Go.Av
end
section
/- Contracts (seat c6): what an instruction bears, takes, puts. -/
namespace Go.Av
section obj
variable (x : PX)
theorem obj1 : pget x.obj 1 = some (.ls (.v x.b2 false) x.n2 x.c2) := rfl
theorem obj2 : pget x.obj 2 = some (.ls (.v x.b3 false) x.n3 x.c3) := rfl
theorem obj3 : pget x.obj 3 = some (.ls (.v x.b4 false) x.cells.length (x.cells.flatMap PCell.enc)) := rfl
end obj
theorem bears_ok (x : PX) (o : KOp) (ha : 0 ≤ o.a) : iso (PC pfs) 51 [x.pv, .agg o.enc] = some (.i .i64 (bearsE x.env o)) := by
  obtain ⟨pos, next, s, a, n⟩ := o
  have hcell := cell_ok x a ha
  have hv := cvalue_ok a
  have hw := wrap_ok a n
  have hp := place_ok s (decide ((x.cells.length : Int) ≤ a)) (cellK x.cells a)
  simp only [PX.pv, PCell.enc] at hcell hp
  unfold iso
  rw [PC_eq (F := pf51) rfl]
  simp only [PX.pv, KOp.enc, bearsE, PX.env]
  by_cases h1 : s = 1
  · cases hv' : valueK a with
    | false => simp [-prunOps, pf51, hcell, hv, hw, h1, hv', obj1, obj2, obj3]
    | true =>
      by_cases he : wrapK a n = n
      · simp [-prunOps, pf51, hcell, hv, hw, h1, hv', obj1, obj2, obj3, he]
      · simp [-prunOps, pf51, hcell, hv, hw, h1, hv', obj1, obj2, obj3, he]
  · by_cases h23 : s = 23
    · cases hv' : valueK a <;> simp [-prunOps, pf51, hcell, hv, h23, hv', obj1, obj2, obj3]
    · by_cases h2 : s = 2
      · by_cases hc : (x.n2 : Int) ≤ a <;> simp [-prunOps, pf51, hcell, h2, obj1, obj2, obj3, hc]
      · by_cases h20 : s = 20
        · by_cases hc : (x.n3 : Int) ≤ a <;> simp [-prunOps, pf51, hcell, h20, obj1, obj2, obj3, hc]
        · by_cases h24 : s = 24
          · by_cases hc : (4 : Int) ≤ a <;> simp [-prunOps, pf51, hcell, h24, obj1, obj2, obj3, hc]
          · by_cases h25 : s = 25
            · by_cases hc : (4 : Int) ≤ a <;> simp [-prunOps, pf51, hcell, h25, obj1, obj2, obj3, hc]
            · simp [-prunOps, pf51, hcell, h1, h23, h2, h20, h24, h25, obj1, obj2, obj3, hp]
              by_cases h3 : s = 3
              · by_cases hc : (x.cells.length : Int) ≤ a <;> simp [h3, hc]
              · by_cases h4 : s = 4
                · by_cases hc : (x.cells.length : Int) ≤ a <;> simp [h4, hc]
                · by_cases h5 : s = 5
                  · by_cases hc : (cellK x.cells a).len = 0 <;> simp [h5, hc]
                  · by_cases h6 : s = 6
                    · by_cases hc : (cellK x.cells a).len = 0 <;> simp [h6, hc]
                    · by_cases h27 : s = 27 <;> by_cases hc : (cellK x.cells a).block = 0 <;> simp [h3, h4, h5, h6, h27, hc]
theorem kind_ok (s a b : Int) : iso (PC pfs) 66 [.i .i64 s, .i .i64 a, .i .i64 b] = some (.tup [.i .i64 (kindK s a b).1, .i .i64 (kindK s a b).2]) := by
  have b1 := both_ok a b [6] (by simp)
  have b2 := both_ok a b [4, 5] (by simp)
  have b3 := both_ok a b [1, 2, 3] (by simp)
  have b4 := both_ok a b [1, 2, 3, 4, 5, 6] (by simp)
  have b5 := both_ok a b [2, 3, 4, 5, 6] (by simp)
  change _ = some (PV.b (bothK a b _)) at b1 b2 b3 b4 b5
  simp only [List.flatMap_cons, List.flatMap_nil, encI, List.length_cons, List.length_nil, List.cons_append, List.nil_append] at b1 b2 b3 b4 b5
  unfold iso
  rw [PC_eq (F := pf66) rfl]
  unfold kindK
  generalize bothK a b [6] = f1 at *
  generalize bothK a b [4, 5] = f2 at *
  generalize bothK a b [1, 2, 3] = f3 at *
  generalize bothK a b [1, 2, 3, 4, 5, 6] = f4 at *
  generalize bothK a b [2, 3, 4, 5, 6] = f5 at *
  by_cases h7 : s = 7
  · cases f1 <;> cases f2 <;> simp [-prunOps, pf66, kindR, h7, b1, b2]
  · by_cases h8 : s = 8
    · cases f1 <;> cases f2 <;> simp [-prunOps, pf66, kindR, h8, b1, b2]
    · by_cases h9 : s = 9
      · cases f2 <;> simp [-prunOps, pf66, kindR, h9, b2]
      · by_cases h10 : s = 10
        · cases f2 <;> simp [-prunOps, pf66, kindR, h10, b2]
        · by_cases h11 : s = 11
          · cases f2 <;> simp [-prunOps, pf66, kindR, h11, b2]
          · by_cases h12 : s = 12
            · cases f3 <;> simp [-prunOps, pf66, kindR, h12, b3]
            · by_cases h13 : s = 13
              · cases f3 <;> simp [-prunOps, pf66, kindR, h13, b3]
              · by_cases h14 : s = 14
                · cases f3 <;> simp [-prunOps, pf66, kindR, h14, b3]
                · by_cases h16 : s = 16
                  · cases f4 <;> simp [-prunOps, pf66, kindR, h16, b4]
                  · by_cases h17 : s = 17
                    · cases f5 <;> simp [-prunOps, pf66, kindR, h17, b5]
                    · by_cases h28 : s = 28
                      · by_cases c1 : b = 5 <;> by_cases c2 : a = 2 <;> by_cases c3 : a = 3 <;> simp [-prunOps, pf66, kindR, h28, c1, c2, c3]
                      · by_cases h29 : s = 29
                        · by_cases c1 : b = 5 <;> by_cases c2 : a = 2 <;> by_cases c3 : a = 3 <;> simp [-prunOps, pf66, kindR, h29, c1, c2, c3]
                        · simp [-prunOps, pf66, h7, h8, h9, h10, h11, h12, h13, h14, h16, h17, h28, h29]
end Go.Av
end
section
/- Contracts (seat c6): what is taken, what is put there, where it goes on. -/
namespace Go.Av
def vI (l : List Int) : PV := .ls (.v false false) l.length (l.flatMap encI)
theorem takes_ok (x : PX) (o : KOp) (ha : 0 ≤ o.a) (h0 : 0 ≤ o.sign) (h1 : o.sign ≤ 29) : iso (PC pfs) 52 [x.pv, .agg o.enc] = some (vI (takesK x.env o)) := by
  obtain ⟨pos, next, s, a, n⟩ := o
  have hcell := cell_ok x a ha
  simp only [PX.pv, PCell.enc] at hcell
  unfold iso
  rw [PC_eq (F := pf52) rfl]
  simp only [PX.pv, KOp.enc, takesK, PX.env, vI]
  simp only at h0 h1
  rcases sgn h0 h1 with rfl | rfl | rfl | rfl | rfl | rfl | rfl | rfl | rfl | rfl | rfl | rfl | rfl | rfl | rfl | rfl | rfl | rfl | rfl | rfl | rfl | rfl | rfl | rfl | rfl | rfl | rfl | rfl | rfl | rfl <;> simp [-prunOps, pf52, hcell, twoK, encI]
theorem on_ok (o : KOp) : iso (PC pfs) 37 [.agg o.enc] = some (vI (onK o)) := by
  obtain ⟨pos, next, s, a, n⟩ := o
  unfold iso
  rw [PC_eq (F := pf37) rfl]
  simp only [KOp.enc, onK, vI]
  by_cases h0 : s = 0
  · simp [-prunOps, pf37, h0, encI]
  · by_cases h18 : s = 18
    · simp [-prunOps, pf37, h18, encI]
    · by_cases h19 : s = 19
      · simp [-prunOps, pf37, h19, encI]
      · simp [-prunOps, pf37, h0, h18, h19, encI]
theorem puts_ok (x : PX) (o : KOp) (ha : 0 ≤ o.a) (h0 : 0 ≤ o.sign) (h1 : o.sign ≤ 29) (t : List Int) (ht : t.length = (takesK x.env o).length) : iso (PC pfs) 54 [x.pv, .agg o.enc, vI t] = some (.tup [vI (putsK x.env o t).1, .i .i64 (putsK x.env o t).2]) := by
  obtain ⟨pos, next, s, a, n⟩ := o
  have hcell := cell_ok x a ha
  simp only [PX.pv, PCell.enc] at hcell
  unfold iso
  rw [PC_eq (F := pf54) rfl]
  simp only [PX.pv, KOp.enc, PX.env, vI]
  simp only at h0 h1
  rcases t with _ | ⟨t0, _ | ⟨t1, _ | ⟨t2, t⟩⟩⟩
  · rcases sgn h0 h1 with rfl | rfl | rfl | rfl | rfl | rfl | rfl | rfl | rfl | rfl | rfl | rfl | rfl | rfl | rfl | rfl | rfl | rfl | rfl | rfl | rfl | rfl | rfl | rfl | rfl | rfl | rfl | rfl | rfl | rfl <;> simp [takesK, twoK] at ht <;> simp [-prunOps, pf54, putsK, hcell, twoK, encI]
  · rcases sgn h0 h1 with rfl | rfl | rfl | rfl | rfl | rfl | rfl | rfl | rfl | rfl | rfl | rfl | rfl | rfl | rfl | rfl | rfl | rfl | rfl | rfl | rfl | rfl | rfl | rfl | rfl | rfl | rfl | rfl | rfl | rfl <;> simp [takesK, twoK] at ht <;> first
      | (simp [-prunOps, pf54, putsK, hcell, twoK, encI, bAt]; done)
      | (by_cases hc : 3 < t0 <;> simp [-prunOps, pf54, putsK, hcell, twoK, encI, bAt, hc])
  · have hk := kind_ok s t0 t1
    rcases sgn h0 h1 with rfl | rfl | rfl | rfl | rfl | rfl | rfl | rfl | rfl | rfl | rfl | rfl | rfl | rfl | rfl | rfl | rfl | rfl | rfl | rfl | rfl | rfl | rfl | rfl | rfl | rfl | rfl | rfl | rfl | rfl <;> simp [takesK, twoK] at ht <;> simp [-prunOps, pf54, putsK, hcell, twoK, encI, bAt, hk]
  · exfalso
    rcases sgn h0 h1 with rfl | rfl | rfl | rfl | rfl | rfl | rfl | rfl | rfl | rfl | rfl | rfl | rfl | rfl | rfl | rfl | rfl | rfl | rfl | rfl | rfl | rfl | rfl | rfl | rfl | rfl | rfl | rfl | rfl | rfl <;> simp [takesK, twoK] at ht
end Go.Av
end
section
/- Contracts (seat c6): slices.Grow, slices.Concat. -/
namespace Go.Av
theorem piterL_step {f : PSt → Option (Ex × PSt)} {s s' : PSt} (h : f s = some (.norm, s')) : piterL f s = piterL f s' := by rw [piterL_eq, h]
theorem piterL_end {f : PSt → Option (Ex × PSt)} {s s' : PSt} {k : Nat} (h : f s = some (.exit k, s')) : piterL f s = some (.exit k, s') := by rw [piterL_eq, h]
theorem piterL_ret {f : PSt → Option (Ex × PSt)} {s s' : PSt} (h : f s = some (.ret, s')) : piterL f s = some (.ret, s') := by rw [piterL_eq, h]
def v0K (n : Nat) : Nat := if n = 0 then 0 else 1
theorem grow_ok0 : PC pfs 67 [nil, .i .i64 0] ⟨[], 0, [], 0⟩ = some (nil, ⟨[], 0, [], 0⟩) := by
  rw [PC_eq (F := pf67) rfl]
  simp [-prunOps, pf67, awrap_id]
theorem azn (n : Nat) (hn : n < 1000000) (σ : PH) : pAppendZ σ 1 8 [.i .i64 0] (.ls (.v false true) 0 []) (.i .i64 ((n : Int) + 1)) = some (.ls (.fresh (n + 1) 1) (n + 1) (prep (n + 1) [.i .i64 0]), σ) := by
  have hv := pan_view (σ := σ) (ez := 1) (bytes := 8) (n := n + 1) (sn := 0) (b := false) (cs := []) (new := prep (n + 1) [.i .i64 0]) (by simp) (by omega) (by omega) (.inl rfl)
  have e : (n : Int) + 1 = Int.ofNat (n + 1) := rfl
  have h4 : big (n + 1) 8 = false := big_ok (by omega) (by omega)
  rw [e]
  unfold pAppendZ
  simp [-prep, h4]
  simpa [-prep] using hv
theorem grow_ok (n : Nat) (hn : n < 1000000) : PC pfs 67 [nil, .i .i64 ((n : Int) + 1)] ⟨[], 0, [], 0⟩ = some (.ls (.own 0 1) 0 [], ⟨[], 0, [.live 1 (n + 1) 1], 0⟩) := by
  rw [PC_eq (F := pf67) rfl]
  have h1 : ¬ ((n : Int) + 1 < 0) := by omega
  have h2 : (0 : Int) < (n : Int) + 1 := by omega
  have h3 : awrap .i64 ((n : Int) + 1) = (n : Int) + 1 := awrap_id (by omega) (by omega)
  have ha := azn n hn
  have h6 : psub (prep (n + 1) [.i .i64 0]) 0 0 = some [] := psub_0 _
  simp [-prunOps, -prep, pf67, awrap_id, h1, h2, h3, ha, h6]
theorem app_room (b t : Bool) (s l : List Int) (v x : Nat) (hx : s.length + l.length ≤ x) :
    pAppend ⟨[], 0, [.live v x 1], 0⟩ 1 8 (.ls (.own 0 v) s.length (s.flatMap encI)) (.ls (.v b t) l.length (l.flatMap encI))
      = some (.ls (.own 0 (if l.length = 0 then v else v + 1)) (s ++ l).length ((s ++ l).flatMap encI), ⟨[], 0, [.live (if l.length = 0 then v else v + 1) x 1], 0⟩) := by
  by_cases hl0 : l.length = 0
  · have : l = [] := List.eq_nil_of_length_eq_zero hl0
    subst this
    simp
  · obtain ⟨n, hl⟩ := Nat.exists_eq_succ_of_ne_zero hl0
    have hl : l.length = n + 1 := hl
    have h1 : psub (l.flatMap encI) 0 ((n + 1) * 1) = some (l.flatMap encI) := psub_all (by simp [hl])
    rw [Nat.mul_one] at h1
    have h2 : s.length + (n + 1) ≤ x := by omega
    have h3 : Nat.ble (s.length + (n + 1)) x = true := by simp; omega
    have hc := clo_shutL (k := 7) (σ := ⟨[], 0, [.live v x 1], 0⟩) (shutI l)
    have e1 : (s ++ l).length = s.length + (n + 1) := by rw [List.length_append, hl]
    have e2 : (s ++ l).flatMap encI = s.flatMap encI ++ l.flatMap encI := List.flatMap_append
    have e3 : Nat.beq (s.flatMap encI).length (s.length * 1) = true := by rw [flat_lenI]; simp
    rw [e1, e2, hl, if_neg (by omega)]
    unfold pAppend
    simp only [plenOf, PH.reads, pfirst, Nat.mul_one, h1, hc]
    unfold pappendNew
    simp only [PH.root, getR, e3, h3]
    simp
def stC1 (s l : List Int) (v1 : PV) (i : Nat) (n : Int) (t : PV × PV × PV) : PSt :=
  ⟨[.ls (.v false false) 2 [vI s, vI l], v1, .i .i64 n, t.1, .und, .und, .ls (.v false false) 2 [vI s, vI l], .i .i64 2, .i .i64 (i : Nat), t.2.1, t.2.2, .und, .und, .und, .und], ⟨[], 0, [], 0⟩⟩
theorem concat1 (s l : List Int) (v1 : PV) (h : s.length + l.length ≤ 1000000) (t : PV × PV × PV) : ∃ t', piterL (pdenL (PC pfs) lp55_1) (stC1 s l v1 0 0 t) = some (.exit 0, stC1 s l v1 2 ((s.length + l.length : Nat) : Int) t') := by
  have a0 : awrap .i64 (s.length : Int) = (s.length : Int) := awrap_id (by omega) (by omega)
  have a1 : awrap .i64 ((s.length : Int) + (l.length : Int)) = (s.length : Int) + (l.length : Int) := awrap_id (by omega) (by omega)
  have c0 : ¬ ((s.length : Int) < 0) := by omega
  have c1 : ¬ ((s.length : Int) + (l.length : Int) < 0) := by omega
  have w1 : awrap .i64 1 = 1 := awrap_id (by omega) (by omega)
  have w2 : awrap .i64 2 = 2 := awrap_id (by omega) (by omega)
  have h0 : pdenL (PC pfs) lp55_1 (stC1 s l v1 0 0 t) = some (.norm, stC1 s l v1 1 (s.length : Int) (vI s, .b true, .b false)) := by
    simp [-prunOps, stC1, lp55_1, vI, a0, c0, w1]
  have h1 : pdenL (PC pfs) lp55_1 (stC1 s l v1 1 (s.length : Int) (vI s, .b true, .b false)) = some (.norm, stC1 s l v1 2 ((s.length + l.length : Nat) : Int) (vI l, .b true, .b false)) := by
    simp [-prunOps, stC1, lp55_1, vI, a1, c1, w2]
  have h2 : pdenL (PC pfs) lp55_1 (stC1 s l v1 2 ((s.length + l.length : Nat) : Int) (vI l, .b true, .b false)) = some (.exit 0, stC1 s l v1 2 ((s.length + l.length : Nat) : Int) (vI l, .b false, .b false)) := by
    simp [-prunOps, stC1, lp55_1, vI]
  exact ⟨_, by rw [piterL_step h0, piterL_step h1, piterL_end h2]⟩
def stC2 (s l : List Int) (v1 v2 v3 : PV) (v7 v8 v9 v10 : PV) (i : Nat) (v x : Nat) (q : List Int) (t : PV × PV) : PSt :=
  ⟨[.ls (.v false false) 2 [vI s, vI l], v1, v2, v3, .ls (.own 0 v) q.length (q.flatMap encI), t.1, .ls (.v false false) 2 [vI s, vI l], v7, v8, v9, v10, .ls (.v false false) 2 [vI s, vI l], .i .i64 2, .i .i64 (i : Nat), t.2], ⟨[], 0, [.live v x 1], 0⟩⟩
theorem concat2 (s l : List Int) (v1 v2 v3 v7 v8 v9 v10 : PV) (v x : Nat) (h : s.length + l.length ≤ x) (t : PV × PV) :
    ∃ v' t', piterL (pdenL (PC pfs) lp55_2) (stC2 s l v1 v2 v3 v7 v8 v9 v10 0 v x [] t) = some (.exit 2, stC2 s l v1 v2 v3 v7 v8 v9 v10 2 v' x (s ++ l) t') := by
  have w1 : awrap .i64 1 = 1 := awrap_id (by omega) (by omega)
  have w2 : awrap .i64 2 = 2 := awrap_id (by omega) (by omega)
  have r0 := app_room false false [] s v x (by simp; omega)
  have r1 := fun v => app_room false false s l v x h
  simp only [List.nil_append, List.length_nil, List.flatMap_nil] at r0
  have h0 : pdenL (PC pfs) lp55_2 (stC2 s l v1 v2 v3 v7 v8 v9 v10 0 v x [] t) = some (.norm, stC2 s l v1 v2 v3 v7 v8 v9 v10 1 (if s.length = 0 then v else v + 1) x s (vI s, .b true)) := by
    generalize (if s.length = 0 then v else v + 1) = k at *
    simp [-prunOps, -pAppend, stC2, lp55_2, vI, w1, r0]
  generalize (if s.length = 0 then v else v + 1) = k at *
  have h1 : pdenL (PC pfs) lp55_2 (stC2 s l v1 v2 v3 v7 v8 v9 v10 1 k x s (vI s, .b true)) = some (.norm, stC2 s l v1 v2 v3 v7 v8 v9 v10 2 (if l.length = 0 then k else k + 1) x (s ++ l) (vI l, .b true)) := by
    have r1 := r1 k
    generalize (if l.length = 0 then k else k + 1) = k2 at *
    generalize s ++ l = q at *
    simp [-prunOps, -pAppend, stC2, lp55_2, vI, w2, r1]
  generalize (if l.length = 0 then k else k + 1) = k2 at *
  have h2 : pdenL (PC pfs) lp55_2 (stC2 s l v1 v2 v3 v7 v8 v9 v10 2 k2 x (s ++ l) (vI l, .b true)) = some (.exit 2, stC2 s l v1 v2 v3 v7 v8 v9 v10 2 k2 x (s ++ l) (vI l, .b false)) := by
    generalize s ++ l = q
    simp [-prunOps, stC2, lp55_2, vI]
  exact ⟨_, _, by rw [piterL_step h0, piterL_step h1, piterL_end h2]⟩
theorem concat_ok (s l : List Int) (h : s.length + l.length ≤ 1000000) : iso (PC pfs) 55 [.ls (.v false false) 2 [vI s, vI l]] = some (.ls (.fresh (s.length + l.length) 1) (s ++ l).length ((s ++ l).flatMap encI)) := by
  unfold iso
  rw [PC_eq (F := pf55) rfl]
  obtain ⟨t1, k1⟩ := concat1 s l nil h (.und, .und, .und)
  cases hn : s.length + l.length with
  | zero =>
    obtain ⟨v', t2, k2⟩ := concat2 s l nil (.i .i64 0) t1.1 (.i .i64 2) (.i .i64 2) t1.2.1 t1.2.2 0 0 (by omega) (.und, .und)
    rw [hn] at k1
    have hg := grow_ok0
    generalize s ++ l = q at *
    simp [stC1] at k1 hg
    simp [stC2] at k2
    simp [-prunOps, pf55, k1, hg, k2]
  | succ n =>
    obtain ⟨v', t2, k2⟩ := concat2 s l nil (.i .i64 ((n + 1 : Nat) : Int)) t1.1 (.i .i64 2) (.i .i64 2) t1.2.1 t1.2.2 1 (n + 1) (by omega) (.und, .und)
    rw [hn] at k1
    have hg := grow_ok n (by omega)
    have e : ((n + 1 : Nat) : Int) = (n : Int) + 1 := rfl
    rw [e] at k1 k2
    generalize s ++ l = q at *
    simp [stC1] at k1 hg
    simp [stC2] at k2
    simp [-prunOps, pf55, k1, hg, k2]
end Go.Av
end
section
/- Contracts (seat c6): one step. -/
namespace Go.Av
theorem psub_from (s : List Int) (k : Nat) (hk : k ≤ s.length) : psub (s.flatMap encI) (k * 1) ((s.length - k) * 1) = some ((s.drop k).flatMap encI) := by
  unfold psub
  rw [if_pos (by simp; omega)]
  congr 1
  have e : ∀ l : List Int, l.flatMap encI = l.map (PV.i .i64) := by
    intro l; induction l with
    | nil => rfl
    | cons a l ih => simp [encI, ih]
  rw [e, e, ← List.map_drop, List.take_of_length_le (by simp)]
  simp
theorem psub_to (s : List Int) (k : Nat) (hk : k ≤ s.length) : psub (s.flatMap encI) (0 * 1) ((k - 0) * 1) = some ((s.take k).flatMap encI) := by
  unfold psub
  rw [if_pos (by simp; omega)]
  congr 1
  have e : ∀ l : List Int, l.flatMap encI = l.map (PV.i .i64) := by
    intro l; induction l with
    | nil => rfl
    | cons a l ih => simp [encI, ih]
  rw [e, e]
  simp [List.map_take]
theorem pbound_nat (k : IntKind) (n y : Nat) (h : n ≤ y) : pbound (.i k (n : Int)) y = some n := by
  show (match Nat.ble n y with | true => some n | false => none) = _
  rw [ble_iff.2 h]
theorem sl_from (σ : PH) (s : List Int) (k : Nat) (hk : k ≤ s.length) : pSlSl .d σ 1 (vI s) (some (.i .i64 (k : Nat))) none none = some (vI (s.drop k), σ) := by
  unfold pSlSl vI
  have h1 : pbounds s.length s.length (some (.i .i64 (k : Nat))) none none = some (k, s.length, s.length) := by
    unfold pbounds; simp only; rw [pbound_nat _ _ _ hk]
  simp only [PH.reads, h1, psub_from s k hk]
  simp
theorem sl_to (σ : PH) (s : List Int) (k : Nat) (hk : k ≤ s.length) : pSlSl .d σ 1 (vI s) none (some (.i .i64 (k : Nat))) none = some (vI (s.take k), σ) := by
  unfold pSlSl vI
  have h1 : pbounds s.length s.length none (some (.i .i64 (k : Nat))) none = some (0, k, s.length) := by
    unfold pbounds; simp only; rw [pbound_nat _ _ _ hk]
  simp only [PH.reads, h1, psub_to s k hk]
  simp [Nat.min_eq_left hk]
theorem fits_iff : ∀ {l m : List Int}, l.length = m.length → (fitsK l m = false ↔ ∃ i, ∃ h : i < l.length, ∃ h' : i < m.length, l[i] ≠ 0 ∧ l[i] ≠ m[i])
  | [], _, _ => by simp [fitsK]
  | _ :: _, [], h => by cases h
  | k :: l, x :: m, h => by
    have ih := fits_iff (l := l) (m := m) (by simpa using h)
    unfold fitsK
    constructor
    · intro hf
      by_cases hk : k ≠ 0 ∧ k ≠ x
      · exact ⟨0, by simp, by simp, by simpa using hk⟩
      · have h1 : (decide (k = 0) || decide (k = x)) = true := by
          by_cases a : k = 0 <;> by_cases b : k = x <;> simp_all
        rw [h1] at hf
        obtain ⟨i, a, b, c⟩ := ih.1 (by simpa using hf)
        exact ⟨i + 1, by simp; omega, by simp; omega, by simpa using c⟩
    · rintro ⟨i, a, b, c⟩
      cases i with
      | zero => simp at c; simp [c]
      | succ i =>
        have := ih.2 ⟨i, by simpa using a, by simpa using b, by simpa using c⟩
        simp [this]
theorem takes_le (E : KEnv) (o : KOp) : (takesK E o).length ≤ 2 := by
  unfold takesK
  repeat' split
  all_goals simp
def stS (p oa s : PV) (o : KOp) (T took : List Int) (v6 v8 v12 v13 v14 v15 v21 v22 : PV) (v4 : PV) (v5 : Int) (i : Nat) (t : PV × PV × PV × PV) : PSt :=
  ⟨[p, oa, s, .p 0 0, v4, .i .i64 v5, v6, vI T, v8, vI took, t.1, t.2.1, v12, v13, v14, v15, vI T, .i .i64 (T.length : Nat), .i .i64 (i : Nat), t.2.2.1, t.2.2.2, v21, v22], ⟨[.cells o.enc 0], 0, [], 0⟩⟩
theorem step_loop (p oa s : PV) (o : KOp) (T took : List Int) (hT : T.length = took.length) (hl : T.length ≤ 2) (v6 v8 v12 v13 v14 v15 v21 v22 : PV) (t : PV × PV × PV × PV) :
    (fitsK T took = false ∧ ∃ (i : Nat) (t' : PV × PV × PV × PV), piterL (pdenL (PC pfs) lp36_1) (stS p oa s o T took v6 v8 v12 v13 v14 v15 v21 v22 nil 0 0 t) = some (.ret, stS p oa s o T took v6 v8 v12 v13 v14 v15 v21 v22 nil 19 i t')) ∨
    (fitsK T took = true ∧ ∃ t', piterL (pdenL (PC pfs) lp36_1) (stS p oa s o T took v6 v8 v12 v13 v14 v15 v21 v22 nil 0 0 t) = some (.exit 0, stS p oa s o T took v6 v8 v12 v13 v14 v15 v21 v22 nil 0 T.length t')) := by
  have key := @for_find (pdenL (PC pfs) lp36_1) (PV × PV × PV × PV) 0 (stS p oa s o T took v6 v8 v12 v13 v14 v15 v21 v22 nil 0) (stS p oa s o T took v6 v8 v12 v13 v14 v15 v21 v22 nil 0 T.length) (fun i => ∃ h : i < T.length, ∃ h' : i < took.length, T[i] ≠ 0 ∧ T[i] ≠ took[i]) (fun i t => stS p oa s o T took v6 v8 v12 v13 v14 v15 v21 v22 nil 19 i t) T.length ?_ ?_ ?_ t
  · rcases key with ⟨i, hi, hp, _, t', h⟩ | ⟨hj, t', h⟩
    · exact .inl ⟨(fits_iff hT).2 ⟨i, hp⟩, i, t', h⟩
    · refine .inr ⟨?_, t', h⟩
      cases hf : fitsK T took with
      | true => rfl
      | false =>
        obtain ⟨i, a, b⟩ := (fits_iff hT).1 hf
        exact (hj i a ⟨a, b⟩).elim
  · rintro i hi ⟨_, h', h1, h2⟩ t
    refine ⟨(.i .i64 (i : Nat), .i .i64 T[i], .b true, .b true), ?_⟩
    simp [-prunOps, stS, lp36_1, vI, hi, h', I_at i T hi, I_at i took h', h1, h2]
  · intro i hi hp t
    have h' : i < took.length := by omega
    by_cases h1 : T[i] = 0
    · refine ⟨(.i .i64 (i : Nat), .i .i64 T[i], .b true, .b false), ?_⟩
      simp [-prunOps, stS, lp36_1, vI, hi, h', I_at i T hi, I_at i took h', h1, awrap_nat1 (n := i) (by omega)]
    · have h2 : T[i] = took[i] := Decidable.byContradiction fun e => hp ⟨hi, h', h1, e⟩
      rw [h2] at h1
      refine ⟨(.i .i64 (i : Nat), .i .i64 T[i], .b true, .b false), ?_⟩
      simp [-prunOps, stS, lp36_1, vI, hi, h', I_at i T hi, I_at i took h', h1, h2, awrap_nat1 (n := i) (by omega)]
  · intro t
    refine ⟨(t.1, t.2.1, .b false, t.2.2.2), ?_⟩
    simp [-prunOps, stS, lp36_1, vI]
theorem puts_le (E : KEnv) (o : KOp) (t : List Int) (ht : t.length ≤ 2) : (putsK E o t).1.length ≤ 2 := by
  unfold putsK
  repeat' split
  all_goals simp [ht]
theorem step_ok (x : PX) (o : KOp) (ha : 0 ≤ o.a) (h0 : 0 ≤ o.sign) (h1 : o.sign ≤ 29) (s : List Int) (hs : s.length ≤ 1000) :
    iso (PC pfs) 36 [x.pv, .agg o.enc, vI s] = some (.tup [vI (stepK x.env o s).1, .i .i64 (stepK x.env o s).2]) := by
  have hb := bears_ok x o ha
  have ht := takes_ok x o ha h0 h1
  have hT2 := takes_le x.env o
  have hp := fun t h => puts_ok x o ha h0 h1 t h
  have e5 : psub o.enc 0 5 = some o.enc := rfl
  have hlo : mapO (lendC 8 ⟨[.cells o.enc 0], 0, [], 0⟩) o.enc = some o.enc := rfl
  have hcl : (PV.agg o.enc).cells? = some o.enc := rfl
  have hok : pokCells o.enc = true := rfl
  unfold iso
  rw [PC_eq (F := pf36) rfl]
  unfold stepK
  simp only [PX.pv] at hb ht hp ⊢
  generalize hbe : bearsE x.env o = be at *
  generalize hTe : takesK x.env o = T at *
  by_cases hz : be = 0
  · subst hz
    by_cases hlt : s.length < T.length
    · have c1 : (s.length : Int) < (T.length : Int) := by omega
      simp [-prunOps, pf36, hb, ht, hlo, hok, e5, vI, c1, hlt]
    · have c1 : ¬ ((s.length : Int) < (T.length : Int)) := by omega
      have c2 : awrap .i64 ((s.length : Int) - (T.length : Int)) = ((s.length - T.length : Nat) : Int) := by rw [awrap_id (by omega) (by omega)]; omega
      have s1 := fun σ => sl_from σ s (s.length - T.length) (by omega)
      have s2 := fun σ => sl_to σ s (s.length - T.length) (by omega)
      have htk : (s.drop (s.length - T.length)).length = T.length := by simp; omega
      have hc := clone_ok (f := 53) (ez := 1) (bytes := 8) rfl false (s.drop (s.length - T.length)).length ((s.drop (s.length - T.length)).flatMap encI) (shutI _) (by simp) (by omega) (by omega)
      have hpp := hp (s.drop (s.length - T.length)) htk
      have hpl := puts_le x.env o (s.drop (s.length - T.length)) (by omega)
      have hlp := step_loop (.pls (.v true false) x.obj 0) (.agg o.enc) (vI s) o T (s.drop (s.length - T.length)) (by omega) hT2 (.i .i64 0) (.i .i64 ((s.length - T.length : Nat) : Int)) .und .und (.b false) (.b false) .und .und (.und, .und, .und, .und)
      have z0 : ((0 : Nat) : Int) = 0 := rfl
      have hk : s.length - T.length ≤ 1000 := by omega
      have hcc := concat_ok (s.take (s.length - T.length)) (putsK x.env o (s.drop (s.length - T.length))).1 (by simp; omega)
      simp only [if_neg hlt, ne_eq, not_true, if_false]
      generalize s.drop (s.length - T.length) = took at *
      generalize s.take (s.length - T.length) = rest at *
      generalize s.length - T.length = k at *
      generalize hpe : putsK x.env o took = pe at *
      obtain ⟨l, e⟩ := pe
      simp only at *
      rcases hlp with ⟨hf, i, t', hl⟩ | ⟨hf, t', hl⟩
      · simp only [stS, vI, htk, nil, z0] at hl s1 hc ht
        simp [-prunOps, -pSlSl, pf36, hb, ht, hlo, hok, e5, c1, c2, hf, vI, s1, htk, hc, hl]
      · simp only [stS, vI, htk, nil, z0] at hl s1 s2 hc ht hpp hcc
        by_cases he : e = 0
        · subst he
          have c3 : awrap .i64 ((k : Int) + (l.length : Int)) = (k : Int) + (l.length : Int) := awrap_id (by omega) (by omega)
          by_cases h8 : 8 < k + l.length
          · have c4 : (8 : Int) < (k : Int) + (l.length : Int) := by omega
            simp [-prunOps, -pSlSl, pf36, hb, ht, hlo, hok, e5, c1, c2, hf, vI, s1, htk, hc, hl, hpp, h8, c3, c4]
          · have c4 : ¬ ((8 : Int) < (k : Int) + (l.length : Int)) := by omega
            generalize rest ++ l = q at *
            simp [-prunOps, -pSlSl, pf36, hb, ht, hlo, hok, e5, c1, c2, hf, vI, s1, s2, htk, hc, hl, hpp, h8, c3, c4, hcc]
        · simp [-prunOps, -pSlSl, pf36, hb, ht, hlo, hok, e5, c1, c2, hf, vI, s1, htk, hc, hl, hpp, he]
  · simp [-prunOps, pf36, hb, ht, hlo, hok, e5, vI, hz]
end Go.Av
end
