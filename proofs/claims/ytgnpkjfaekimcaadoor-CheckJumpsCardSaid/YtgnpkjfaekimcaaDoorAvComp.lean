/- From the model's code to the abstract machine's. -/
import Derived.Test.YtgnpkjfaekimcaaDoorAvCore
import GoSem.Core.Region
import GoSem.Op.Equal
set_option linter.unusedVariables false
set_option linter.unusedSimpArgs false
set_option linter.unusedSectionVars false
namespace Go.Av

def szOf (P : Program) (t : TypeId) : Option Nat :=
  match P.info? t with
  | some i => some i.size
  | none => none
/-- none: no such type; some none: one cell; some (some n): a row of n cells. -/
def aggOf (P : Program) (t : TypeId) : Option (Option Nat) :=
  match P.underlying t, szOf P t with
  | some (.struct _), some n => some (some n)
  | some (.array _ _), some n => some (some n)
  | some _, some _ => some none
  | _, _ => none
def ofScalar : Value → Option AV
  | .bool b => some (.b b)
  | .int k n => some (.i k n)
  | .string s => some (.s s.data.toList)
  | .pointer none => some .nilp
  | .slice none 0 0 => some .nils
  | .map none => some .nilm
  | .nilFunc => some .nilf
  | .nilIface => some .nili
  | .func (.func f) fi ca => match fi.toList, ca.toList with
    | [], [] => some (.f f [] [])
    | _, _ => none
  | _ => none
def ofScalars : List Value → Option (List AV)
  | [] => some []
  | v :: l => match ofScalar v, ofScalars l with
    | some x, some r => some (x :: r)
    | _, _ => none
def ofValue : Value → Option AV
  | .agg cs => match ofScalars cs.toList with
    | some l => some (.agg l)
    | none => none
  | .tuple cs => match ofScalars cs.toList with
    | some l => some (.tup l)
    | none => none
  | v => ofScalar v
def zeroOf (P : Program) (t : TypeId) : Option AV :=
  match P.info? t with
  | some i => match i.zero with
    | some z => ofValue z
    | none => none
  | none => none

def idxOf (t : Nat) : List Nat → Option Nat
  | [] => none
  | x :: l => match Nat.beq x t with
    | true => some 0
    | false => match idxOf t l with
      | some n => some (n + 1)
      | none => none
def idxSome (t : Nat) : List (Option Nat) → Option Nat
  | [] => none
  | x :: l => match x with
    | some y => match Nat.beq y t with
      | true => some 0
      | false => match idxSome t l with
        | some n => some (n + 1)
        | none => none
    | none => match idxSome t l with
      | some n => some (n + 1)
      | none => none

/-- An operand; ds: what the region's operations ahead of it set, the last first; vt: the variables' temporaries. -/
def cOperand (P : Program) (vt : List Nat) (ds : List (Option Nat)) : Operand → Option AO
  | .tmp t => match idxSome t ds with
    | some d => some (.r d)
    | none => match idxOf t vt with
      | some j => some (.v j)
      | none => none
  | .const v => match ofValue v with
    | some x => some (.c x)
    | none => none
  | .func f => some (.c (.f f [] []))
  | .global g => match Nat.blt g P.globals.size with
    | true => some (.c (.p g 0))
    | false => none
def cOperands (P : Program) (vt : List Nat) (ds : List (Option Nat)) : List Operand → Option (List AO)
  | [] => some []
  | x :: l => match cOperand P vt ds x, cOperands P vt ds l with
    | some a, some r => some (a :: r)
    | _, _ => none
def cOpt (P : Program) (vt : List Nat) (ds : List (Option Nat)) : Option Operand → Option (Option AO)
  | none => some none
  | some x => match cOperand P vt ds x with
    | some a => some (some a)
    | none => none

/-- The kinds of the cells of a struct's fields. -/
def leavesGo (P : Program) (rec : TypeId → Option (List Nat)) : List Field → Nat → Option (List Nat)
  | [], _ => some []
  | f :: l, off => if f.name = "_" || f.offset ≠ off then none else
    match rec f.type, szOf P f.type with
    | some a, some z => if a.length ≠ z then none else
      match leavesGo P rec l (off + z) with
      | some r => some (a ++ r)
      | none => none
    | _, _ => none
/-- The kinds of a type's cells, if all are numbers (0), texts (1), bools (2). -/
def leaves (P : Program) : Nat → TypeId → Option (List Nat)
  | 0, _ => none
  | n + 1, t =>
    match P.underlying t with
    | some (.int _) => some [0]
    | some .string => some [1]
    | some .bool => some [2]
    | some (.struct fs) =>
      if P.stoodInHeld t then none else leavesGo P (leaves P n) fs.toList 0
    | some (.array len e) => match leaves P n e, szOf P e with
      | some a, some z => if a.length ≠ z then none else some ((List.replicate len a).flatten)
      | _, _ => none
    | _ => none
def scalar (P : Program) (t : TypeId) : Bool :=
  match P.underlying t with
  | some (.int _) => true
  | some .string => true
  | some .bool => true
  | _ => false
def keyKind (P : Program) (t : TypeId) : Option KK :=
  match P.underlying t with
  | some (.int _) => some (.sc 0)
  | some .string => some (.sc 1)
  | some .bool => some (.sc 2)
  | some (.struct fs) => match fs.toList.all (fun f => scalar P f.type), leaves P 8 t with
    | true, some l => some (.st l)
    | _, _ => none
  | _ => none

def isNilIface : Operand → Bool
  | .const .nilIface => true
  | _ => false

/-- Parts of a struct, of an array. -/
def cParts (P : Program) (vt : List Nat) (ds : List (Option Nat)) (place : Nat → Option (Nat × Nat)) : List (Nat × Operand) → Option (List (Nat × Nat × AO))
  | [] => some []
  | (i, x) :: l => match place i, cOperand P vt ds x, cParts P vt ds place l with
    | some (off, size), some a, some r => some ((off, size, a) :: r)
    | _, _, _ => none
def placesOf (P : Program) : List Field → Option (List (Nat × Nat))
  | [] => some []
  | f :: l => match szOf P f.type, placesOf P l with
    | some z, some r => some ((f.offset, z) :: r)
    | _, _ => none

def cBin (P : Program) (vt : List Nat) (ds : List (Option Nat)) (op : BinOp) (t : TypeId) (x y : Operand) : Option AOp :=
  match cOperand P vt ds x, cOperand P vt ds y with
  | some a, some b =>
    match op with
    | .eql | .neq =>
      let neg := match op with | .neq => true | _ => false
      match P.underlying t with
      | some (.int _) => some (.bin op a b)
      | some .string => some (.bin op a b)
      | some .bool => some (.eq neg 0 a b)
      | some (.pointer e) => match szOf P e with
        | some (_ + 1) => some (.eq neg 1 a b)
        | _ => none
      | some (.slice _) => some (.eq neg 2 a b)
      | some (.map _ _) => some (.eq neg 3 a b)
      | some (.func _ _ _) => some (.eq neg 4 a b)
      | some (.interface _) => if isNilIface x || isNilIface y then some (.eq neg 5 a b) else none
      | some (.struct _) => match leaves P 8 t with
        | some ls => if P.eqGuardType P.depth t then none else some (.eqA neg ls a b)
        | none => none
      | some (.array _ _) => match leaves P 8 t with
        | some ls => if P.eqGuardType P.depth t then none else some (.eqA neg ls a b)
        | none => none
      | _ => none
    | _ => some (.bin op a b)
  | _, _ => none

def cConvert (P : Program) (vt : List Nat) (ds : List (Option Nat)) (src dst : TypeId) (x : Operand) : Option AOp :=
  match cOperand P vt ds x with
  | none => none
  | some a =>
    match P.underlying src, P.underlying dst with
    | some (.int _), some (.int k) => some (.conv k a)
    | some .string, some .string => some (.asS a)
    | some .string, some (.slice e) => match P.underlying e with
      | some (.int .u8) => some (.s2b a)
      | _ => none
    | some (.slice e), some .string => match P.underlying e with
      | some (.int .u8) => some (.b2s a)
      | _ => none
    | _, _ => none

def cCall (P : Program) (vt : List Nat) (ds : List (Option Nat)) (c : Call) : Option AOp :=
  match cOperands P vt ds c.args.toList with
  | none => none
  | some as =>
    match c.callee with
    | .value f => match cOperand P vt ds f with
      | some g => some (.call g as)
      | none => none
    | .invoke _ _ => none
    | .builtin b =>
      match b, c.argTypes.toList, as with
      | .len, t :: _, x :: _ => match P.underlying t with
        | some .string => some (.len 0 x)
        | some (.slice _) => some (.len 1 x)
        | some (.map _ _) => some (.len 2 x)
        | some (.array n _) => some (.mv (.c (.i .i64 (.ofNat n))))
        | _ => none
      | .cap, t :: _, x :: _ => match P.underlying t with
        | some (.slice _) => some (.cap x)
        | _ => none
      | .append, t :: u :: _, s :: x :: _ => match P.underlying t, P.underlying u with
        | some (.slice e), some d => match d, P.info? e with
          | .int _, some i => match i.size, zeroOf P e with
            | n + 1, some z => if z.cellsOf.length = n + 1 then some (.appendZ (n + 1) i.bytes z.cellsOf s x) else none
            | _, _ => none
          | _, some i => match i.size, zeroOf P e with
            | n + 1, some z => if z.cellsOf.length = n + 1 then some (.append (n + 1) i.bytes s x) else none
            | _, _ => none
          | _, none => none
        | _, _ => none
      | .copy, t :: _, d :: s :: _ => match P.underlying t with
        | some (.slice e) => match szOf P e with
          | some (n + 1) => some (.copy (n + 1) d s)
          | _ => none
        | _ => none
      | .min, _, _ => some (.min as)
      | .max, _, _ => some (.max as)
      | .delete, t :: _, m :: k :: _ => match P.underlying t with
        | some (.map key _) => match keyKind P key with
          | some kk => some (.del kk m k)
          | none => none
        | _ => none
      | _, _, _ => none

def cSlice (P : Program) (t : TypeId) (a : AO) (lo hi mx : Option AO) : Option AOp :=
  match P.underlying t with
  | some (.array n e) => match szOf P e with
    | some z => some (.slA n z a lo hi mx)
    | none => none
  | some .string => match mx with
    | none => some (.slS a lo hi)
    | some _ => none
  | some (.slice e) => match szOf P e with
    | some z => some (.slSl z a lo hi mx)
    | none => none
  | some (.pointer p) => match P.underlying p with
    | some (.array n e) => match szOf P e with
      | some z => some (.slA n z a lo hi mx)
      | none => none
    | _ => none
  | _ => none

/-- One operation; none: it is not served. -/
def cOp (P : Program) (vt : List Nat) (ds : List (Option Nat)) (o : Op) : Option AOp :=
  let x1 := cOperand P vt ds
  match o with
  | .move x | .assign x => match x1 x with
    | some a => some (.mv a)
    | none => none
  | .pick c a b => match x1 c, x1 a, x1 b with
    | some c, some a, some b => some (.pick c a b)
    | _, _, _ => none
  | .alloc t => match zeroOf P t with
    | some z => some (.box (.c z))
    | none => none
  | .box _ x => match x1 x with
    | some a => some (.box a)
    | none => none
  | .build t ps => match P.underlying t, zeroOf P t with
    | some (.struct fs), some z => match placesOf P fs.toList with
      | some pl => match cParts P vt ds (fun i => pl[i]?) ps.toList with
        | some l => some (.build z.cellsOf l)
        | none => none
      | none => none
    | some (.array _ e), some z => match szOf P e with
      | some n => match cParts P vt ds (fun i => some (i * n, n)) ps.toList with
        | some l => some (.build z.cellsOf l)
        | none => none
      | none => none
    | _, _ => none
  | .buildSlice t len ps => match P.underlying t with
    | some (.slice e) => match szOf P e, zeroOf P e with
      | some (n + 1), some z =>
        if len * (n + 1) ≤ 16777216 ∧ z.cellsOf.length = n + 1 then
          match cParts P vt ds (fun i => some (i * (n + 1), n + 1)) ps.toList with
          | some l => some (.buildSl len (n + 1) z.cellsOf l)
          | none => none
        else none
      | _, _ => none
    | _ => none
  | .load t a => match x1 a, aggOf P t with
    | some a, some n => some (.load n a)
    | _, _ => none
  | .store t a v => match x1 a, x1 v, szOf P t with
    | some a, some v, some n => some (.store n a v)
    | _, _, _ => none
  | .nilCheck x => match x1 x with
    | some a => some (.nilck a)
    | none => none
  | .binOp op t x y _ => cBin P vt ds op t x y
  | .unOp op _ x => match x1 x with
    | some a => some (.un op a)
    | none => none
  | .convert src dst x => cConvert P vt ds src dst x
  | .makeInterface t x => match x1 x, P.underlying t with
    | some _, some (.interface _) => none
    | some a, some _ => some (.mkifc t a)
    | _, _ => none
  | .makeFunc (.func f) fi ca => match cOperands P vt ds fi.toList, cOperands P vt ds ca.toList with
    | some fi, some ca => some (.mkfn f fi ca)
    | _, _ => none
  | .makeMap _ none => some .mkmap
  | .makeSlice t n c => match P.underlying t with
    | some (.slice e) => match x1 n, x1 c, P.info? e, zeroOf P e with
      | some n, some c, some i, some z => match i.size with
        | s + 1 => if z.cellsOf.length = s + 1 then some (.mksl (s + 1) i.bytes z.cellsOf n c) else none
        | 0 => none
      | _, _, _, _ => none
    | _ => none
  | .slice t x lo hi mx => match x1 x, cOpt P vt ds lo, cOpt P vt ds hi, cOpt P vt ds mx with
    | some a, some lo, some hi, some mx => cSlice P t a lo hi mx
    | _, _, _, _ => none
  | .fieldAddr t x f => match x1 x, P.underlying t with
    | some a, some (.struct fs) => match fs[f]? with
      | some fd => match szOf P fd.type with
        | some (_ + 1) => some (.faddr fd.offset a)
        | _ => none
      | none => none
    | _, _ => none
  | .field t x f => match x1 x, P.underlying t with
    | some a, some (.struct fs) => match fs[f]? with
      | some fd => match aggOf P fd.type with
        | some n => some (.fld fd.offset n a)
        | none => none
      | none => none
    | _, _ => none
  | .indexAddr t x i => match x1 x, x1 i, P.underlying t with
    | some a, some i, some (.array n e) => match szOf P e with
      | some z => some (.iaA n z a i)
      | none => none
    | some a, some i, some (.slice e) => match szOf P e with
      | some z => some (.iaS z a i)
      | none => none
    | _, _, _ => none
  | .index t x i => match x1 x, x1 i, P.underlying t with
    | some a, some i, some (.array n e) => match aggOf P e, szOf P e with
      | some none, some z => some (.idxA n z false a i)
      | some (some _), some z => some (.idxA n z true a i)
      | _, _ => none
    | some a, some i, some .string => some (.idxS a i)
    | _, _, _ => none
  | .lookup t m k ok => match x1 m, x1 k, P.underlying t with
    | some m, some k, some (.map key e) => match keyKind P key, zeroOf P e with
      | some kk, some z => some (.look kk z ok m k)
      | _, _ => none
    | _, _, _ => none
  | .mapUpdate t m k v | .insert t m k v => match x1 m, x1 k, x1 v, P.underlying t with
    | some m, some k, some v, some (.map key _) => match keyKind P key with
      | some kk => some (.mupd kk m k v)
      | none => none
    | _, _, _, _ => none
  | .mapEntry t m k => match x1 m, x1 k, P.underlying t with
    | some m, some k, some (.map key e) => match keyKind P key, zeroOf P e with
      | some kk, some z => some (.ment kk z m k)
      | _, _ => none
    | _, _, _ => none
  | .entryStore _ m s v => match x1 m, x1 s, x1 v with
    | some m, some s, some v => some (.estore m s v)
    | _, _, _ => none
  | .extract t i => match x1 t with
    | some a => some (.ext i a)
    | none => none
  | .call c => cCall P vt ds c
  | _ => none

/-! ## Regions -/

/-- An operation that may act on what is there already. -/
def actsA : AOp → Bool
  | .store .. | .mupd .. | .ment .. | .estore .. | .del .. | .append .. | .appendZ .. | .copy .. | .call .. | .bad => true
  | _ => false
/-- An operation that neither looks into memory nor makes any. -/
def pureA : AOp → Bool
  | .mv _ | .pick .. | .build .. | .nilck _ | .asS _ | .bin .. | .eq .. | .eqA .. | .un .. | .conv .. | .mkifc .. | .mkfn .. | .slS .. | .slSl .. | .slA ..
  | .faddr .. | .fld .. | .iaA .. | .iaS .. | .idxA .. | .idxS .. | .ext .. | .cap _ | .min _ | .max _ => true
  | .len k _ => match k with
    | 2 => false
    | _ => true
  | _ => false

/-- Which operations come ahead of one, as a row of bits. -/
def maskOf (ms : List Nat) (k : Nat) : List Edge → Nat → Nat
  | [], acc => acc
  | e :: es, acc => match Region.binds .any e with
    | true => maskOf ms k es (acc ||| 2 ^ e.on ||| ms.getD (k - 1 - e.on) 0)
    | false => maskOf ms k es acc
/-- All edges that bind go back. -/
def backward (k : Nat) : List Edge → Bool
  | [] => true
  | e :: es => (!Region.binds .any e || Nat.blt e.on k) && backward k es
/-- masks of the operations, the last first. -/
def masks : List Oper → Nat → List Nat → List Nat
  | [], _, ms => ms
  | o :: os, k, ms => masks os (k + 1) (maskOf ms k o.after.toList 0 :: ms)

def dstIn (t : Nat) : List (Option Nat) → Bool
  | [] => false
  | x :: l => match x with
    | some y => Nat.beq y t || dstIn t l
    | none => dstIn t l
def nodupDst : List (Option Nat) → Bool
  | [] => true
  | x :: l => match x with
    | some y => !dstIn y l && nodupDst l
    | none => nodupDst l
def dstsBelow (n : Nat) : List (Option Nat) → Bool
  | [] => true
  | x :: l => match x with
    | some y => Nat.blt y n && dstsBelow n l
    | none => dstsBelow n l

/-- Temporaries that an operation looks at. -/
def tmpsOf : List Operand → List Nat
  | [] => []
  | .tmp t :: l => t :: tmpsOf l
  | _ :: l => tmpsOf l

/-- In a region that draws its order: whatever sets a temporary that the k-th operation looks at stands surely ahead of it, or behind. -/
def looksOk (ds : List (Option Nat)) (mask : Nat → Nat) (k : Nat) (ts : List Nat) : Bool :=
  ts.all fun t => (ds.zipIdx).all fun (d, p) => match d with
    | some y => !Nat.beq y t || Nat.beq p k || (Nat.blt p k && (mask k).testBit p) || (Nat.blt k p && (mask p).testBit k)
    | none => true

def ordered (mask : Nat → Nat) (p k : Nat) : Bool := (Nat.blt p k && (mask k).testBit p) || (Nat.blt k p && (mask p).testBit k)

/-- Everything but what is pure stands surely ahead of the k-th operation, or behind it. -/
def fullAt (mask : Nat → Nat) (as : List ARO) (k : Nat) : Bool :=
  as.zipIdx.all fun (a, p) => Nat.beq p k || pureA a.op || ordered mask p k
def isBox : AOp → Bool
  | .box _ => true
  | _ => false
def noGuard : ARO → Bool
  | ⟨_, none, _, _⟩ => true
  | _ => false
/-- The operation just ahead makes a block, and all that is behind stands surely behind. -/
def lastAt (mask : Nat → Nat) (as : List ARO) (k : Nat) : Bool :=
  match k with
  | 0 => false
  | j + 1 => (match as[j]? with
      | some a => isBox a.op && noGuard a
      | none => false) && (mask (j + 1)).testBit j &&
    as.zipIdx.all fun (a, p) => Nat.ble p (j + 1) || pureA a.op || (mask p).testBit (j + 1)
def barAt (mask : Nat → Nat) (as : List ARO) (k : Nat) : Bar :=
  match fullAt mask as k with
  | true => .full
  | false => match lastAt mask as k with
    | true => .last
    | false => .new
def Bar.isFull : Bar → Bool
  | .full => true
  | _ => false

def drawOk (ops : List Oper) (ds : List (Option Nat)) (as : List ARO) (mask : Nat → Nat) : Bool :=
  ops.zipIdx.all fun (o, k) =>
    backward k o.after.toList && looksOk ds mask k (tmpsOf o.op.operands.toList) &&
    (match o.guard with
      | none => true
      | some (j, _) => Nat.blt j k && (mask k).testBit j) &&
    ((match as[k]? with
      | some a => a.bar.isFull || !actsA a.op
      | none => false) || (as.zipIdx.all fun (a, p) => !actsA a.op || !Nat.blt p k || (mask k).testBit p))

def cOper (P : Program) (vt : List Nat) (k : Nat) (ds : List (Option Nat)) (o : Oper) : ARO :=
  let var := match o.dst with
    | some t => idxOf t vt
    | none => none
  let op := (cOp P vt ds o.op).getD .bad
  match o.guard with
  | none => ⟨op, none, var, .full⟩
  | some (j, w) => match Nat.blt j k, (ds.getD (k - 1 - j) none) with
    | true, some _ => ⟨op, some (k - 1 - j, w), var, .full⟩
    | _, _ => ⟨.bad, none, var, .full⟩
def cOpers (P : Program) (vt : List Nat) : List Oper → Nat → List (Option Nat) → List ARO
  | [], _, _ => []
  | o :: os, k, ds => cOper P vt k ds o :: cOpers P vt os (k + 1) (o.dst :: ds)
def withBars (bar : Nat → Bar) : List ARO → Nat → List ARO
  | [], _ => []
  | a :: l, k => ⟨a.op, a.guard, a.var, bar k⟩ :: withBars bar l (k + 1)

def cRegion (P : Program) (vt : List Nat) (nt : Nat) (ops : List Oper) (draw : Bool) : ACode :=
  match nodupDst (ops.map (·.dst)), dstsBelow nt (ops.map (·.dst)) with
  | true, true => match draw with
    | false => .reg (cOpers P vt ops 0 [])
    | true =>
      let n := ops.length
      let ms := masks ops 0 []
      let mask := fun k => ms.getD (n - 1 - k) 0
      let as := cOpers P vt ops 0 []
      let bs := withBars (barAt mask as) as 0
      match drawOk ops (ops.map (·.dst)) bs mask with
      | true => .reg bs
      | false => .bad
  | _, _ => .bad

def cCode (P : Program) (vt : List Nat) (nt : Nat) : Code → ACode
  | .skip => .skip
  | .label _ => .skip
  | .ret => .ret
  | .exit id => .exit id
  | .region _ ops draw => cRegion P vt nt ops.toList draw
  | .seq a b => .seq (cCode P vt nt a) (cCode P vt nt b)
  | .cond c a b => match cOperand P vt [] c with
    | some x => .cond x (cCode P vt nt a) (cCode P vt nt b)
    | none => .bad
  | .block id c => .blk id (cCode P vt nt c)
  | .loop c => .loop (cCode P vt nt c)
  | _ => .bad

def cRes (P : Program) (vt : List Nat) : List ResultVar → Option (List ARes)
  | [] => some []
  | .tmp t :: l => match idxOf t vt, cRes P vt l with
    | some j, some r => some (.v j :: r)
    | _, _ => none
  | .cell a t :: l => match idxOf a vt, aggOf P t, cRes P vt l with
    | some j, some n, some r => some (.cell j n :: r)
    | _, _, _ => none

def nodupN : List Nat → Bool
  | [] => true
  | x :: l => (match idxOf x l with
    | some _ => false
    | none => true) && nodupN l

def cIni (n : Nat) : List Nat → List (Option Nat)
  | [] => []
  | t :: l => (match Nat.blt t n with
    | true => some t
    | false => none) :: cIni n l

def cFunc (P : Program) (f : Nat) (vt : List Nat) : Option AFunc :=
  match P.funcs[f]? with
  | none => none
  | some fn => match fn.body, cRes P vt fn.results.toList with
    | some c, some r =>
      if fn.name = "runtime.NumGoroutine" ∨ nodupN vt = false ∨ vt.all (fun t => Nat.blt t fn.ntmps) = false ∨ fn.ntmps < fn.params.size + fn.nfree then none else
      some ⟨cIni (fn.params.size + fn.nfree) vt, r, cCode P vt fn.ntmps c⟩
    | _, _ => none

end Go.Av
