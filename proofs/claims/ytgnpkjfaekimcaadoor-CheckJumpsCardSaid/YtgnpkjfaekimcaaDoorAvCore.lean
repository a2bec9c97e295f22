/- The abstract machine: values, heap, code, and what the code does. Plain definitions; nothing of a program. -/
import GoSem.Core.Program
import GoSem.Core.View
import GoSem.Op.String
set_option linter.unusedVariables false
set_option linter.unusedSimpArgs false
set_option linter.unusedSectionVars false
namespace Go.Av

/-- A slice's capacity: known, or what the block has behind so many elements. -/
inductive ACap where
  | k (n : Nat)
  | u (e : Nat)

/-- Values: a block is named by its number in the abstract heap. -/
inductive AV where
  | und
  | b (x : Bool)
  | i (k : IntKind) (n : Int)
  | s (x : List UInt8)
  | nilp
  | p (b o : Nat)
  | nils
  | sl (b o n : Nat) (c : ACap)
  | nilm
  | m (b : Nat)
  | nilf
  | f (fn : Nat) (fi ca : List AV)
  | nili
  | ifc (t : Nat) (v : AV)
  | agg (l : List AV)
  | tup (l : List AV)

/-- A block's state: it may be written; it was appended to since (it may share its cells with a later one); it is only read. -/
inductive ASt where
  | rw | sh | ro

inductive AObj where
  | cells (c : List AV) (st : ASt) (prev : List Nat) (ez : Nat)
  | map (es : List (AV × AV × Nat)) (clock : Nat)
  | dead

inductive HT where
  | e
  | n (o : Option AObj) (l r : HT)

def HT.root : HT → Option AObj
  | .e => none
  | .n o _ _ => o
def HT.left : HT → HT
  | .e => .e
  | .n _ l _ => l
def HT.right : HT → HT
  | .e => .e
  | .n _ _ r => r
def HT.get : HT → Nat → Option AObj
  | .e, _ => none
  | .n o l r, i =>
    match i with
    | 0 => o
    | j + 1 => match j % 2 with
      | 0 => l.get (j / 2)
      | _ => r.get (j / 2)
def HT.setF : Nat → HT → Nat → AObj → HT
  | 0, t, _, o => .n (some o) t.left t.right
  | f + 1, t, i, o =>
    match i with
    | 0 => .n (some o) t.left t.right
    | j + 1 => match j % 2 with
      | 0 => .n t.root (HT.setF f t.left (j / 2) o) t.right
      | _ => .n t.root t.left (HT.setF f t.right (j / 2) o)
def HT.set (t : HT) (i : Nat) (o : AObj) : HT := HT.setF i t i o

/-- The heap: blocks, the next block's number, below which number nothing is written. -/
structure AHeap where
  t : HT
  n : Nat
  lim : Nat

def AHeap.get (h : AHeap) (b : Nat) : Option AObj := h.t.get b
def AHeap.put (h : AHeap) (b : Nat) (o : AObj) : AHeap := ⟨h.t.set b o, h.n, h.lim⟩
def AHeap.push (h : AHeap) (o : AObj) : AHeap := ⟨h.t.set h.n o, h.n + 1, h.lim⟩
def AHeap.withLim (h : AHeap) (l : Nat) : AHeap := ⟨h.t, h.n, l⟩
def AHeap.empty : AHeap := ⟨.e, 0, 0⟩

/-! ## Lists -/

def nth : List AV → Nat → AV
  | [], _ => .und
  | x :: _, 0 => x
  | _ :: l, n + 1 => nth l n
def setn : List AV → Nat → AV → List AV
  | [], _, _ => []
  | _ :: l, 0, v => v :: l
  | x :: l, n + 1, v => x :: setn l n v
def takeN : List AV → Nat → Option (List AV)
  | _, 0 => some []
  | [], _ + 1 => none
  | x :: l, n + 1 => match takeN l n with
    | some r => some (x :: r)
    | none => none
def dropN : List AV → Nat → List AV
  | l, 0 => l
  | [], _ + 1 => []
  | _ :: l, n + 1 => dropN l n
def sub (l : List AV) (o n : Nat) : Option (List AV) := takeN (dropN l o) n
def overlay : List AV → List AV → Option (List AV)
  | c, [] => some c
  | [], _ :: _ => none
  | _ :: c, v :: vs => match overlay c vs with
    | some r => some (v :: r)
    | none => none
def splice : List AV → Nat → List AV → Option (List AV)
  | c, 0, vs => overlay c vs
  | [], _ + 1, _ => none
  | x :: c, o + 1, vs => match splice c o vs with
    | some r => some (x :: r)
    | none => none
def get? : List AV → Nat → Option AV
  | [], _ => none
  | x :: _, 0 => some x
  | _ :: l, n + 1 => get? l n
def rep : Nat → List AV → List AV
  | 0, _ => []
  | n + 1, z => z ++ rep n z
def AV.cellsOf : AV → List AV
  | .agg l => l
  | v => [v]
def AV.cells? : AV → Option (List AV)
  | .und => none
  | .agg l => some l
  | v => some [v]
def AV.okCell : AV → Bool
  | .agg _ | .tup _ | .und => false
  | _ => true
def okCells : List AV → Bool
  | [] => true
  | x :: l => match x.okCell with
    | true => okCells l
    | false => false

/-! ## Operands, operations, code -/

inductive AO where
  | v (i : Nat)
  | r (i : Nat)
  | c (x : AV)
def AO.ev (rs vs : List AV) : AO → AV
  | .v i => nth vs i
  | .r i => nth rs i
  | .c x => x
def evs (rs vs : List AV) : List AO → List AV
  | [] => []
  | x :: l => x.ev rs vs :: evs rs vs l
def evOpt (rs vs : List AV) : Option AO → Option AV
  | none => none
  | some x => some (x.ev rs vs)

/-- A map's keys: numbers (0), texts (1), bools (2); structs of these. -/
inductive KK where
  | sc (l : Nat)
  | st (ls : List Nat)

inductive AOp where
  | mv (x : AO)
  | pick (c a b : AO)
  | box (x : AO)
  | build (z : List AV) (ps : List (Nat × Nat × AO))
  | buildSl (n ez : Nat) (z : List AV) (ps : List (Nat × Nat × AO))
  | load (n : Option Nat) (a : AO)
  | store (n : Nat) (a v : AO)
  | nilck (x : AO)
  | asS (x : AO)
  | bad
  | bin (op : BinOp) (x y : AO)
  | eq (neg : Bool) (kd : Nat) (x y : AO)
  | eqA (neg : Bool) (ls : List Nat) (x y : AO)
  | un (op : UnOp) (x : AO)
  | conv (k : IntKind) (x : AO)
  | s2b (x : AO)
  | b2s (x : AO)
  | mkifc (t : Nat) (x : AO)
  | mkfn (f : Nat) (fi ca : List AO)
  | mkmap
  | mksl (ez bytes : Nat) (z : List AV) (n c : AO)
  | slS (x : AO) (lo hi : Option AO)
  | slSl (ez : Nat) (x : AO) (lo hi mx : Option AO)
  | slA (n ez : Nat) (x : AO) (lo hi mx : Option AO)
  | faddr (off : Nat) (x : AO)
  | fld (off : Nat) (n : Option Nat) (x : AO)
  | iaA (n ez : Nat) (x i : AO)
  | iaS (ez : Nat) (x i : AO)
  | idxA (n ez : Nat) (ag : Bool) (x i : AO)
  | idxS (x i : AO)
  | look (kk : KK) (z : AV) (ok : Bool) (m k : AO)
  | mupd (kk : KK) (m k v : AO)
  | ment (kk : KK) (z : AV) (m k : AO)
  | estore (m s v : AO)
  | del (kk : KK) (m k : AO)
  | ext (i : Nat) (x : AO)
  | len (k : Nat) (x : AO)
  | cap (x : AO)
  | append (ez bytes : Nat) (s x : AO)
  | appendZ (ez bytes : Nat) (z : List AV) (s x : AO)
  | copy (ez : Nat) (d s : AO)
  | min (xs : List AO)
  | max (xs : List AO)
  | call (f : AO) (as : List AO)

/-- What an operation may write to: everything (it stands between all others), what it makes itself, that and what the operation just ahead made. -/
inductive Bar where
  | full | new | last
/-- An operation of a region: its guard (whose result, which answer), the variable that it sets, what it may write to. -/
structure ARO where
  op : AOp
  guard : Option (Nat × Bool)
  var : Option Nat
  bar : Bar

inductive ACode where
  | skip
  | ret
  | reg (ops : List ARO)
  | seq (a b : ACode)
  | cond (c : AO) (a b : ACode)
  | blk (id : Nat) (c : ACode)
  | loop (c : ACode)
  | exit (id : Nat)
  | bad

inductive ARes where
  | v (i : Nat)
  | cell (i : Nat) (n : Option Nat)

structure AFunc where
  ini : List (Option Nat)
  res : List ARes
  body : ACode

/-! ## Numbers and texts -/

def kCode : IntKind → Nat
  | .i8 => 0 | .i16 => 1 | .i32 => 2 | .i64 => 3 | .u8 => 4 | .u16 => 5 | .u32 => 6 | .u64 => 7
def kEq (a b : IntKind) : Bool := Nat.beq (kCode a) (kCode b)
def kMod : IntKind → Nat
  | .i8 | .u8 => 256
  | .i16 | .u16 => 65536
  | .i32 | .u32 => 4294967296
  | .i64 | .u64 => 18446744073709551616
/-- How many numbers from nought on a kind has. -/
def kTop : IntKind → Nat
  | .i8 => 128 | .i16 => 32768 | .i32 => 2147483648 | .i64 => 9223372036854775808
  | .u8 => 256 | .u16 => 65536 | .u32 => 4294967296 | .u64 => 18446744073709551616
def toU (k : IntKind) (n : Int) : Nat :=
  match n with
  | .ofNat x => x % kMod k
  | .negSucc x => kMod k - 1 - x % kMod k
def ofU (k : IntKind) (m : Nat) : Int :=
  match Nat.blt m (kTop k) with
  | true => .ofNat m
  | false => .negSucc (kMod k - 1 - m)
/-- A number, taken to its kind. -/
def awrap (k : IntKind) (n : Int) : Int :=
  match n with
  | .ofNat x => match Nat.blt x (kTop k) with
    | true => .ofNat x
    | false => ofU k (x % kMod k)
  | .negSucc x => ofU k (kMod k - 1 - x % kMod k)

def seq8 : List UInt8 → List UInt8 → Bool
  | [], [] => true
  | a :: x, b :: y => match Nat.beq a.toNat b.toNat with
    | true => seq8 x y
    | false => false
  | _, _ => false

def pow2 (n : Nat) : Int := .ofNat (2 ^ n)
def kBits : IntKind → Nat
  | .i8 | .u8 => 8
  | .i16 | .u16 => 16
  | .i32 | .u32 => 32
  | .i64 | .u64 => 64

def aInt (op : BinOp) (k : IntKind) (a b : Int) : Option AV :=
  match op with
  | .add => some (.i k (awrap k (a + b)))
  | .sub => some (.i k (awrap k (a - b)))
  | .mul => some (.i k (awrap k (a * b)))
  | .quo => if b = 0 then none else some (.i k (awrap k (a.tdiv b)))
  | .rem => if b = 0 then none else some (.i k (a.tmod b))
  | .and => some (.i k (ofU k (Nat.land (toU k a) (toU k b))))
  | .or => some (.i k (ofU k (Nat.lor (toU k a) (toU k b))))
  | .xor => some (.i k (ofU k (Nat.xor (toU k a) (toU k b))))
  | .andNot => some (.i k (ofU k (Nat.land (toU k a) (kMod k - 1 - toU k b))))
  | .eql => some (.b (decide (a = b)))
  | .neq => some (.b (!decide (a = b)))
  | .lss => some (.b (decide (a < b)))
  | .leq => some (.b (decide (a ≤ b)))
  | .gtr => some (.b (decide (b < a)))
  | .geq => some (.b (decide (b ≤ a)))
  | .shl | .shr => none

def aShift (op : BinOp) (k : IntKind) (a b : Int) : Option AV :=
  if b < 0 then none else
  match op with
  | .shl => some (.i k (awrap k (a * pow2 (Nat.min b.toNat (kBits k)))))
  | .shr => some (.i k (a.fdiv (pow2 (Nat.min b.toNat (kBits k)))))
  | _ => none

def aStr (op : BinOp) (a b : List UInt8) : Option AV :=
  match op with
  | .add => match Nat.ble (a.length + b.length) 4611686018427387904 with
    | true => some (.s (a ++ b))
    | false => none
  | .eql => some (.b (seq8 a b))
  | .neq => some (.b (!seq8 a b))
  | .lss => some (.b (Op.bytesLess a b))
  | .leq => some (.b (Op.bytesLess a b || seq8 a b))
  | .gtr => some (.b (!(Op.bytesLess a b || seq8 a b)))
  | .geq => some (.b (!Op.bytesLess a b))
  | _ => none

def aBin (op : BinOp) (x y : AV) : Option AV :=
  match x, y with
  | .i k a, .i k' b => match op with
    | .shl => aShift .shl k a b
    | .shr => aShift .shr k a b
    | op => match kEq k k' with
      | true => aInt op k a b
      | false => none
  | .s a, .s b => aStr op a b
  | _, _ => none

def leafEq : Nat → AV → AV → Option Bool
  | 0, .i k a, .i k' b => match kEq k k' with
    | true => some (decide (a = b))
    | false => none
  | 1, .s a, .s b => some (seq8 a b)
  | 2, .b x, .b y => some (x == y)
  | _, _, _ => none
def leavesEq : List Nat → List AV → List AV → Option Bool
  | [], [], [] => some true
  | l :: ls, x :: xs, y :: ys => match leafEq l x y with
    | some true => leavesEq ls xs ys
    | some false => some false
    | none => none
  | _, _, _ => none
/-- ==, by the kind of type: 0 bool, 1 pointer, 2 slice, 3 map, 4 func, 5 interface. -/
def aEq : Nat → AV → AV → Option Bool
  | 0, .b x, .b y => some (x == y)
  | 1, .nilp, .nilp => some true
  | 1, .p _ _, .nilp => some false
  | 1, .nilp, .p _ _ => some false
  | 1, .p b o, .p b' o' => match Nat.beq b b' with
    | true => some (Nat.beq o o')
    | false => none
  | 2, .nils, .nils => some true
  | 2, .sl _ _ _ _, .nils => some false
  | 2, .nils, .sl _ _ _ _ => some false
  | 3, .nilm, .nilm => some true
  | 3, .m _, .nilm => some false
  | 3, .nilm, .m _ => some false
  | 4, .nilf, .nilf => some true
  | 4, .f _ _ _, .nilf => some false
  | 4, .nilf, .f _ _ _ => some false
  | 5, .nili, .nili => some true
  | 5, .ifc _ _, .nili => some false
  | 5, .nili, .ifc _ _ => some false
  | _, _, _ => none
def keyEq (kk : KK) (a b : AV) : Option Bool :=
  match kk with
  | .sc l => leafEq l a b
  | .st ls => match a, b with
    | .agg x, .agg y => leavesEq ls x y
    | _, _ => none

/-! ## Memory -/

def loadAt (h : AHeap) (n : Option Nat) (a : AV) : Option AV :=
  match a with
  | .p b o => match h.get b with
    | some (.cells c _ _ _) => match n with
      | none => get? c o
      | some k => match sub c o k with
        | some l => some (.agg l)
        | none => none
    | _ => none
  | _ => none

def killAll : AHeap → List Nat → Option AHeap
  | h, [] => some h
  | h, q :: ps => match Nat.blt q h.lim with
    | true => none
    | false => killAll (h.put q .dead) ps

def writeAt (h : AHeap) (b o : Nat) (vs : List AV) : Option AHeap :=
  match h.get b with
  | some (.cells c .rw prev ez) => match Nat.blt b h.lim, okCells vs, splice c o vs with
    | false, true, some c' => match killAll h prev with
      | some h' => some (h'.put b (.cells c' .rw [] ez))
      | none => none
    | _, _, _ => none
  | _ => none

def len_ (l : List AV) : Nat := l.length

def storeAt (h : AHeap) (n : Nat) (a v : AV) : Option AHeap :=
  match a with
  | .p b o => match Nat.beq (len_ v.cellsOf) n with
    | true => writeAt h b o v.cellsOf
    | false => none
  | _ => none

/-- What is laid into a struct, or an array, part by part. -/
def fill (rs vs : List AV) : List AV → List (Nat × Nat × AO) → Option (List AV)
  | c, [] => some c
  | c, (off, size, x) :: ps =>
    match (x.ev rs vs).cells? with
    | none => none
    | some l => match Nat.beq (len_ l) size, splice c off l with
      | true, some c' => fill rs vs c' ps
      | _, _ => none

/-- The cells that an append, or a copy, takes: of how many elements. -/
def lenOf : AV → Option Nat
  | .nils => some 0
  | .sl _ _ n _ => some n
  | .s x => some x.length
  | _ => none
def byteCells : List UInt8 → List AV
  | [] => []
  | x :: l => .i .u8 (.ofNat x.toNat) :: byteCells l
def firstCells (h : AHeap) (ez n : Nat) (x : AV) : Option (List AV) :=
  match x with
  | .nils => match n with
    | 0 => some []
    | _ => none
  | .sl b o _ _ => match n with
    | 0 => some []
    | _ => match h.get b with
      | some (.cells c _ _ _) => sub c o (n * ez)
      | _ => none
  | .s x => match ez with
    | 1 => takeN (byteCells x) n
    | _ => none
  | _ => none
def big (n bytes : Nat) : Bool := Nat.blt 140737488355328 ((2 * n + 2000) * (bytes + 1))

/-- n elements, whose cells are new, behind a slice. -/
def appendNew (h : AHeap) (ez bytes : Nat) (s : AV) (n : Nat) (new : List AV) : Option (AV × AHeap) :=
  match okCells new with
  | false => none
  | true => match s with
    | .nils => match big n bytes with
      | true => none
      | false => some (.sl h.n 0 n (.u 0), h.push (.cells new .rw [] ez))
    | .sl b o sn (.k c) => match Nat.ble (sn + n) c with
      | true => match writeAt h b (o + sn * ez) new with
        | some h' => some (.sl b o (sn + n) (.k c), h')
        | none => none
      | false => match big (sn + n) bytes, firstCells h ez sn s with
        | false, some old => some (.sl h.n 0 (sn + n) (.u 0), h.push (.cells (old ++ new) .rw [] ez))
        | _, _ => none
    | .sl b o sn (.u e) => match h.get b with
      | some (.cells cc .rw prev ez') =>
        match Nat.beq ez ez', Nat.beq o (e * ez) with
        | true, true => match Nat.ble (o + (sn + n) * ez) (len_ cc) with
          | true => match writeAt h b (o + sn * ez) new with
            | some h' => some (.sl b o (sn + n) (.u e), h')
            | none => none
          | false => match Nat.beq (o + sn * ez) (len_ cc), big (sn + n) bytes, firstCells h ez sn s with
            | true, false, some old => some (.sl h.n 0 (sn + n) (.u 0), (h.put b (.cells cc .sh [] ez')).push (.cells (old ++ new) .rw (b :: prev) ez))
            | _, _, _ => none
        | _, _ => none
      | _ => none
    | _ => none

def aAppend (h : AHeap) (ez bytes : Nat) (s x : AV) : Option (AV × AHeap) :=
  match lenOf x with
  | none => none
  | some 0 => match s with
    | .nils => some (s, h)
    | .sl _ _ _ _ => some (s, h)
    | _ => none
  | some n => match firstCells h ez n x with
    | none => none
    | some new => appendNew h ez bytes s n new
/-- append(s, make([]T, n)...) -/
def aAppendZ (h : AHeap) (ez bytes : Nat) (z : List AV) (s x : AV) : Option (AV × AHeap) :=
  match x with
  | .i .i64 (.ofNat n) => match n, big n bytes with
    | 0, _ => match s with
      | .nils => some (s, h)
      | .sl _ _ _ _ => some (s, h)
      | _ => none
    | n, false => appendNew h ez bytes s n (rep n z)
    | _, _ => none
  | _ => none

def aCopy (h : AHeap) (ez : Nat) (d s : AV) : Option (AV × AHeap) :=
  match lenOf s with
  | none => none
  | some m => match d with
    | .nils => some (.i .i64 0, h)
    | .sl b o dn _ => match Nat.min m dn with
      | 0 => some (.i .i64 0, h)
      | k => match firstCells h ez k s with
        | some cs => match writeAt h b o cs with
          | some h' => some (.i .i64 (.ofNat k), h')
          | none => none
        | none => none
    | _ => none

def bytesOf : List AV → Option (List UInt8)
  | [] => some []
  | .i .u8 n :: l => match bytesOf l with
    | some r => some (UInt8.ofNat n.toNat :: r)
    | none => none
  | _ => none

/-! ## Slicing -/

/-- A bound: a number from 0 to y. -/
def bound (x : AV) (y : Nat) : Option Nat :=
  match x with
  | .i _ (.ofNat n) => match Nat.ble n y with
    | true => some n
    | false => none
  | _ => none
/-- (low, high, max) of len and cap; without a max its cap is handed back. -/
def bounds (len cap : Nat) (lo hi mx : Option AV) : Option (Nat × Nat × Nat) :=
  match (match mx with
    | some v => bound v cap
    | none => some cap) with
  | none => none
  | some m => match (match hi with
      | some v => bound v m
      | none => match mx with
        | none => some len
        | some _ => none) with
    | none => none
    | some h => match (match lo with
        | some v => bound v h
        | none => some 0) with
      | none => none
      | some l => some (l, h, m)
def sub8 : List UInt8 → Nat → Nat → List UInt8
  | l, o, n => (l.drop o).take n
def aSlS (x : AV) (lo hi : Option AV) : Option AV :=
  match x with
  | .s t => match bounds t.length t.length lo hi none with
    | some (l, h, _) => some (.s (sub8 t l (h - l)))
    | none => none
  | _ => none
def aSlSl (ez : Nat) (x : AV) (lo hi mx : Option AV) : Option AV :=
  match x with
  | .nils => match bounds 0 0 lo hi mx with
    | some _ => some .nils
    | none => none
  | .sl b o n (.k c) => match bounds n c lo hi mx with
    | some (l, h, m) => some (.sl b (o + l * ez) (h - l) (.k (m - l)))
    | none => none
  | .sl b o n (.u e) => match bounds n n lo hi mx with
    | some (l, h, m) => match mx with
      | some _ => some (.sl b (o + l * ez) (h - l) (.k (m - l)))
      | none => some (.sl b (o + l * ez) (h - l) (.u (e + l)))
    | none => none
  | _ => none
def aSlA (n ez : Nat) (x : AV) (lo hi mx : Option AV) : Option AV :=
  match x with
  | .p b o => match bounds n n lo hi mx with
    | some (l, h, m) => some (.sl b (o + l * ez) (h - l) (.k (m - l)))
    | none => none
  | _ => none

/-! ## Maps -/

def mfind (kk : KK) (k : AV) : List (AV × AV × Nat) → Nat → Option (Option (Nat × AV × Nat))
  | [], _ => some none
  | (k', v, b) :: es, j => match keyEq kk k k' with
    | some true => some (some (j, v, b))
    | some false => mfind kk k es (j + 1)
    | none => none
def mset : List (AV × AV × Nat) → Nat → AV → List (AV × AV × Nat)
  | [], _, _ => []
  | (k, _, b) :: es, 0, v => (k, v, b) :: es
  | e :: es, j + 1, v => e :: mset es j v
def mdel : List (AV × AV × Nat) → Nat → List (AV × AV × Nat)
  | [], _ => []
  | _ :: es, 0 => es
  | e :: es, j + 1 => e :: mdel es j
def mborn : List (AV × AV × Nat) → Nat → Nat → Option Nat
  | [], _, _ => none
  | (_, _, b) :: es, s, j => match Nat.beq b s with
    | true => some j
    | false => mborn es s (j + 1)
def okVal : AV → Bool
  | .und => false
  | _ => true
def okKey (kk : KK) (k : AV) : Bool :=
  match keyEq kk k k with
  | some _ => true
  | none => false
def lookOut (ok : Bool) (v : AV) (is : Bool) : AV :=
  match ok with
  | true => .tup [v, .b is]
  | false => v
def aLook (h : AHeap) (kk : KK) (z : AV) (ok : Bool) (m k : AV) : Option AV :=
  match okKey kk k, m with
  | true, .nilm => some (lookOut ok z false)
  | true, .m b => match h.get b with
    | some (.map es _) => match mfind kk k es 0 with
      | some (some (_, v, _)) => some (lookOut ok v true)
      | some none => some (lookOut ok z false)
      | none => none
    | _ => none
  | _, _ => none
def aMupd (h : AHeap) (kk : KK) (m k v : AV) : Option AHeap :=
  match okKey kk k, m with
  | true, .m b => match h.get b, Nat.blt b h.lim with
    | some (.map es cl), false => match mfind kk k es 0 with
      | some (some (j, _, _)) => some (h.put b (.map (mset es j v) cl))
      | some none => some (h.put b (.map (es ++ [(k, v, cl)]) (cl + 1)))
      | none => none
    | _, _ => none
  | _, _ => none
def aMent (h : AHeap) (kk : KK) (z m k : AV) : Option (AV × AHeap) :=
  match okKey kk k, m with
  | true, .m b => match h.get b, Nat.blt b h.lim with
    | some (.map es cl), false => match mfind kk k es 0 with
      | some (some (_, v, s)) => some (.tup [v, .i .i64 (.ofNat s)], h)
      | some none => some (.tup [z, .i .i64 (.ofNat cl)], h.put b (.map (es ++ [(k, z, cl)]) (cl + 1)))
      | none => none
    | _, _ => none
  | _, _ => none
def aEstore (h : AHeap) (m s v : AV) : Option AHeap :=
  match m, s with
  | .m b, .i _ (.ofNat n) => match h.get b, Nat.blt b h.lim with
    | some (.map es cl), false => match mborn es n 0 with
      | some j => some (h.put b (.map (mset es j v) cl))
      | none => none
    | _, _ => none
  | _, _ => none
def aDel (h : AHeap) (kk : KK) (m k : AV) : Option AHeap :=
  match okKey kk k, m with
  | true, .nilm => some h
  | true, .m b => match h.get b, Nat.blt b h.lim with
    | some (.map es cl), false => match mfind kk k es 0 with
      | some (some (j, _, _)) => some (h.put b (.map (mdel es j) cl))
      | some none => some h
      | none => none
    | _, _ => none
  | _, _ => none

/-! ## One operation -/

def aLen (h : AHeap) : Nat → AV → Option AV
  | 0, .s x => some (.i .i64 (.ofNat x.length))
  | 1, .nils => some (.i .i64 0)
  | 1, .sl _ _ n _ => some (.i .i64 (.ofNat n))
  | 2, .nilm => some (.i .i64 0)
  | 2, .m b => match h.get b with
    | some (.map es _) => some (.i .i64 (.ofNat es.length))
    | _ => none
  | _, _ => none
def aCapOf : AV → Option AV
  | .nils => some (.i .i64 0)
  | .sl _ _ _ (.k c) => some (.i .i64 (.ofNat c))
  | _ => none
def aIndex (i : AV) (n : Nat) : Option Nat :=
  match i with
  | .i _ (.ofNat j) => match Nat.blt j n with
    | true => some j
    | false => none
  | _ => none
def nth8 : List UInt8 → Nat → Option UInt8
  | [], _ => none
  | x :: _, 0 => some x
  | _ :: l, n + 1 => nth8 l n
def aMinF (k : IntKind) : Int → List AV → Option AV
  | a, [] => some (.i k a)
  | a, .i _ b :: l => aMinF k (if b < a then b else a) l
  | _, _ => none
def aMin : List AV → Option AV
  | .i k a :: l => aMinF k a l
  | _ => none
def aMaxF (k : IntKind) : Int → List AV → Option AV
  | a, [] => some (.i k a)
  | a, .i _ b :: l => aMaxF k (if a < b then b else a) l
  | _, _ => none
def aMax : List AV → Option AV
  | .i k a :: l => aMaxF k a l
  | _ => none
def aUn (op : UnOp) (x : AV) : Option AV :=
  match op, x with
  | .not, .b y => some (.b (!y))
  | .neg, .i k n => some (.i k (awrap k (0 - n)))
  | .xor, .i k n => some (.i k (ofU k (kMod k - 1 - toU k n)))
  | _, _ => none
def aFld (off : Nat) (n : Option Nat) (x : AV) : Option AV :=
  match x with
  | .agg l => match n with
    | none => get? l off
    | some k => match sub l off k with
      | some r => some (.agg r)
      | none => none
  | _ => none
def ret1 (h : AHeap) : Option AV → Option (AV × AHeap)
  | some v => some (v, h)
  | none => none
def skip1 : Option AHeap → Option (AV × AHeap)
  | some h => some (.tup [], h)
  | none => none
def mapB (neg : Bool) : Option Bool → Option AV
  | some x => some (.b (xor neg x))
  | none => none

/-- An operation that calls no function. -/
def aop (o : AOp) (rs vs : List AV) (h : AHeap) : Option (AV × AHeap) :=
  match o with
  | .mv x => some (x.ev rs vs, h)
  | .pick c a b => match c.ev rs vs with
    | .b true => some (a.ev rs vs, h)
    | .b false => some (b.ev rs vs, h)
    | _ => none
  | .box x => match (x.ev rs vs).cells? with
    | some l => some (.p h.n 0, h.push (.cells l .rw [] 0))
    | none => none
  | .build z ps => match fill rs vs z ps with
    | some l => some (.agg l, h)
    | none => none
  | .buildSl n ez z ps => match fill rs vs (rep n z) ps with
    | some l => some (.sl h.n 0 n (.k n), h.push (.cells l .rw [] ez))
    | none => none
  | .load n a => ret1 h (loadAt h n (a.ev rs vs))
  | .store n a v => skip1 (storeAt h n (a.ev rs vs) (v.ev rs vs))
  | .nilck x => match x.ev rs vs with
    | .p b o => some (.p b o, h)
    | .f a b c => some (.f a b c, h)
    | _ => none
  | .asS x => match x.ev rs vs with
    | .s t => some (.s t, h)
    | _ => none
  | .bad => none
  | .bin op x y => ret1 h (aBin op (x.ev rs vs) (y.ev rs vs))
  | .eq neg kd x y => ret1 h (mapB neg (aEq kd (x.ev rs vs) (y.ev rs vs)))
  | .eqA neg ls x y => match x.ev rs vs, y.ev rs vs with
    | .agg a, .agg b => ret1 h (mapB neg (leavesEq ls a b))
    | _, _ => none
  | .un op x => ret1 h (aUn op (x.ev rs vs))
  | .conv k x => match x.ev rs vs with
    | .i _ n => some (.i k (awrap k n), h)
    | _ => none
  | .s2b x => match x.ev rs vs with
    | .s t => some (.sl h.n 0 t.length (.u 0), h.push (.cells (byteCells t) .rw [] 1))
    | _ => none
  | .b2s x => match x.ev rs vs with
    | .nils => some (.s [], h)
    | .sl b o n c => match firstCells h 1 n (.sl b o n c) with
      | some l => match bytesOf l with
        | some t => some (.s t, h)
        | none => none
      | none => none
    | _ => none
  | .mkifc t x => some (.ifc t (x.ev rs vs), h)
  | .mkfn f fi ca => some (.f f (evs rs vs fi) (evs rs vs ca), h)
  | .mkmap => some (.m h.n, h.push (.map [] 0))
  | .mksl ez bytes z n c => match n.ev rs vs, c.ev rs vs with
    | .i .i64 (.ofNat n), .i .i64 (.ofNat c) => match Nat.ble n c, Nat.ble (bytes * c) 281474976710656, Nat.ble c 4611686018427387904 with
      | true, true, true => some (.sl h.n 0 n (.k c), h.push (.cells (rep c z) .rw [] ez))
      | _, _, _ => none
    | _, _ => none
  | .slS x lo hi => ret1 h (aSlS (x.ev rs vs) (evOpt rs vs lo) (evOpt rs vs hi))
  | .slSl ez x lo hi mx => ret1 h (aSlSl ez (x.ev rs vs) (evOpt rs vs lo) (evOpt rs vs hi) (evOpt rs vs mx))
  | .slA n ez x lo hi mx => ret1 h (aSlA n ez (x.ev rs vs) (evOpt rs vs lo) (evOpt rs vs hi) (evOpt rs vs mx))
  | .faddr off x => match x.ev rs vs with
    | .p b o => some (.p b (o + off), h)
    | _ => none
  | .fld off n x => ret1 h (aFld off n (x.ev rs vs))
  | .iaA n ez x i => match x.ev rs vs, aIndex (i.ev rs vs) n with
    | .p b o, some j => some (.p b (o + j * ez), h)
    | _, _ => none
  | .iaS ez x i => match x.ev rs vs with
    | .sl b o n _ => match aIndex (i.ev rs vs) n with
      | some j => some (.p b (o + j * ez), h)
      | none => none
    | _ => none
  | .idxA n ez ag x i => match aIndex (i.ev rs vs) n with
    | some j => ret1 h (aFld (j * ez) (match ag with
      | true => some ez
      | false => none) (x.ev rs vs))
    | none => none
  | .idxS x i => match x.ev rs vs, i.ev rs vs with
    | .s t, .i _ (.ofNat j) => match nth8 t j with
      | some y => some (.i .u8 (.ofNat y.toNat), h)
      | none => none
    | _, _ => none
  | .look kk z ok m k => ret1 h (aLook h kk z ok (m.ev rs vs) (k.ev rs vs))
  | .mupd kk m k v => skip1 (aMupd h kk (m.ev rs vs) (k.ev rs vs) (v.ev rs vs))
  | .ment kk z m k => aMent h kk z (m.ev rs vs) (k.ev rs vs)
  | .estore m s v => skip1 (aEstore h (m.ev rs vs) (s.ev rs vs) (v.ev rs vs))
  | .del kk m k => match aDel h kk (m.ev rs vs) (k.ev rs vs) with
    | some h' => some (.tup [], h')
    | none => none
  | .ext i x => match x.ev rs vs with
    | .tup l => ret1 h (get? l i)
    | _ => none
  | .len k x => ret1 h (aLen h k (x.ev rs vs))
  | .cap x => ret1 h (aCapOf (x.ev rs vs))
  | .append ez bytes s x => aAppend h ez bytes (s.ev rs vs) (x.ev rs vs)
  | .appendZ ez bytes z s x => aAppendZ h ez bytes z (s.ev rs vs) (x.ev rs vs)
  | .copy ez d s => aCopy h ez (d.ev rs vs) (s.ev rs vs)
  | .min xs => ret1 h (aMin (evs rs vs xs))
  | .max xs => ret1 h (aMax (evs rs vs xs))
  | .call _ _ => none

/-! ## Code -/

structure St where
  vs : List AV
  h : AHeap

inductive Ex where
  | norm
  | exit (id : Nat)
  | ret

def setVar (vs : List AV) (o : Option Nat) (v : AV) : List AV :=
  match o with
  | none => vs
  | some i => setn vs i v

/-- Is it to be run? none: its guard is no bool. -/
def wanted (rs : List AV) : Option (Nat × Bool) → Option Bool
  | none => some true
  | some (i, w) => match nth rs i with
    | .b x => some (x == w)
    | .tup [] => some false
    | _ => none

def stepOp (call : Nat → List AV → AHeap → Option (AV × AHeap)) (o : AOp) (rs vs : List AV) (h : AHeap) : Option (AV × AHeap) :=
  match o with
  | .call f as => match f.ev rs vs with
    | .f fn fi ca => call fn (fi ++ (evs rs vs as ++ ca)) h
    | _ => none
  | o => aop o rs vs h

def stepBar (call : Nat → List AV → AHeap → Option (AV × AHeap)) (o : ARO) (rs vs : List AV) (h : AHeap) : Option (AV × AHeap) :=
  match o.bar with
  | .full => stepOp call o.op rs vs h
  | .new => match stepOp call o.op rs vs (h.withLim h.n) with
    | some (v, h') => some (v, h'.withLim h.lim)
    | none => none
  | .last => match Nat.ble h.lim (h.n - 1) with
    | true => match stepOp call o.op rs vs (h.withLim (h.n - 1)) with
      | some (v, h') => some (v, h'.withLim h.lim)
      | none => none
    | false => none

def runOps (call : Nat → List AV → AHeap → Option (AV × AHeap)) : List ARO → List AV → List AV → AHeap → Option St
  | [], _, vs, h => some ⟨vs, h⟩
  | o :: os, rs, vs, h => match wanted rs o.guard with
    | some true => match stepBar call o rs vs h with
      | some (v, h') => runOps call os (v :: rs) (setVar vs o.var v) h'
      | none => none
    | some false => runOps call os (.tup [] :: rs) (setVar vs o.var (.tup [])) h
    | none => none

def iter (f : St → Option (Ex × St)) : Nat → St → Option (Ex × St)
  | 0, _ => none
  | n + 1, s => match f s with
    | some (.norm, s') => iter f n s'
    | r => r

def den (call : Nat → List AV → AHeap → Option (AV × AHeap)) (lf : Nat) : ACode → St → Option (Ex × St)
  | .skip, s => some (.norm, s)
  | .ret, s => some (.ret, s)
  | .exit id, s => some (.exit id, s)
  | .reg ops, s => match runOps call ops [] s.vs s.h with
    | some s' => some (.norm, s')
    | none => none
  | .seq a b, s => match den call lf a s with
    | some (.norm, s') => den call lf b s'
    | r => r
  | .cond c a b, s => match c.ev [] s.vs with
    | .b true => den call lf a s
    | .b false => den call lf b s
    | _ => none
  | .blk id c, s => match den call lf c s with
    | some (.exit j, s') => match Nat.beq j id with
      | true => some (.norm, s')
      | false => some (.exit j, s')
    | r => r
  | .loop c, s => iter (den call lf c) lf s
  | .bad, _ => none

def inits (as : List AV) : List (Option Nat) → List AV
  | [] => []
  | none :: l => .und :: inits as l
  | some i :: l => nth as i :: inits as l

def resOf (s : St) : ARes → Option AV
  | .v i => some (nth s.vs i)
  | .cell i n => loadAt s.h n (nth s.vs i)
def resAll (s : St) : List ARes → Option (List AV)
  | [] => some []
  | r :: l => match resOf s r, resAll s l with
    | some v, some vs => some (v :: vs)
    | _, _ => none
def result : List AV → AV
  | [v] => v
  | l => .tup l

def callWith (call : Nat → List AV → AHeap → Option (AV × AHeap)) (lf : Nat) (F : AFunc) (as : List AV) (h : AHeap) : Option (AV × AHeap) :=
  match den call lf F.body ⟨inits as F.ini, h⟩ with
  | some (.exit _, _) => none
  | some (_, s) => match resAll s F.res with
    | some l => some (result l, s.h)
    | none => none
  | none => none

/-- A call of function f: at most d calls within one another, lf rounds of a loop. -/
def acall (fns : Nat → Option AFunc) (lf : Nat) : Nat → Nat → List AV → AHeap → Option (AV × AHeap)
  | 0, _, _, _ => none
  | d + 1, f, as, h => match fns f with
    | some F => callWith (acall fns lf d) lf F as h
    | none => none

end Go.Av
