/- The second machine: lists that nobody writes to stand in the values themselves; a function may be called with such values alone. Plain definitions. -/
import Derived.Test.YtgnpkjfaekimcaaDoorAvComp
set_option linter.unusedVariables false
set_option linter.unusedSimpArgs false
set_option linter.unusedSectionVars false
namespace Go.Av

/-- A list's tag. v: a view (bor: its memory may be written to by who lent it; tight: its capacity is its length); own: who has it may append to it; fresh: a call's result, with how many elements there is room for. -/
inductive Tag where
  | v (bor tight : Bool)
  | own (r v : Nat)
  | fresh (x ez : Nat)

inductive PV where
  | und
  | b (x : Bool)
  | i (k : IntKind) (n : Int)
  | s (x : List UInt8)
  | nilp
  | p (b o : Nat)
  | pls (t : Tag) (cs : List PV) (o : Nat)
  | sl (b o n : Nat) (c : Option Nat)
  | ls (t : Tag) (n : Nat) (cs : List PV)
  | nilm
  | m (b : Nat)
  | nilf
  | f (fn : Nat) (fi ca : List PV)
  | nili
  | ifc (t : Nat) (v : PV)
  | agg (l : List PV)
  | tup (l : List PV)

inductive PObj where
  | cells (c : List PV) (ez : Nat)
  | map (es : List (PV × PV × Nat)) (clock : Nat)
  | dead

/-- Who may append: the number of its newest list, how many elements there is room for, an element's size. shut: nobody any more. -/
inductive Root where
  | live (v x ez : Nat)
  | shut (v : Nat)
  | gone

structure PH where
  ob : List PObj
  lim : Nat
  rt : List Root
  rlim : Nat

def PH.empty : PH := ⟨[], 0, [], 0⟩
def PH.push (σ : PH) (o : PObj) : PH := ⟨σ.ob ++ [o], σ.lim, σ.rt, σ.rlim⟩
def setO : List PObj → Nat → PObj → List PObj
  | [], _, _ => []
  | _ :: l, 0, v => v :: l
  | x :: l, n + 1, v => x :: setO l n v
def getO : List PObj → Nat → PObj
  | [], _ => .dead
  | x :: _, 0 => x
  | _ :: l, n + 1 => getO l n
def PH.put (σ : PH) (b : Nat) (o : PObj) : PH := ⟨setO σ.ob b o, σ.lim, σ.rt, σ.rlim⟩
def PH.get (σ : PH) (b : Nat) : PObj := getO σ.ob b
def setR : List Root → Nat → Root → List Root
  | [], _, _ => []
  | _ :: l, 0, v => v :: l
  | x :: l, n + 1, v => x :: setR l n v
def getR : List Root → Nat → Root
  | [], _ => .gone
  | x :: _, 0 => x
  | _ :: l, n + 1 => getR l n
def PH.root (σ : PH) (r : Nat) : Root := getR σ.rt r
def PH.setRoot (σ : PH) (r : Nat) (x : Root) : PH := ⟨σ.ob, σ.lim, setR σ.rt r x, σ.rlim⟩
def PH.newRoot (σ : PH) (x : Root) : PH := ⟨σ.ob, σ.lim, σ.rt ++ [x], σ.rlim⟩
def PH.withLim (σ : PH) (l r : Nat) : PH := ⟨σ.ob, l, σ.rt, r⟩

def nil : PV := .ls (.v false true) 0 []

/-! ## Lists -/
def pnth : List PV → Nat → PV
  | [], _ => .und
  | x :: _, 0 => x
  | _ :: l, n + 1 => pnth l n
def psetn : List PV → Nat → PV → List PV
  | [], _, _ => []
  | _ :: l, 0, v => v :: l
  | x :: l, n + 1, v => x :: psetn l n v
/-- n cells from the o-th on. -/
def psub (l : List PV) (o n : Nat) : Option (List PV) := if o + n ≤ l.length then some ((l.drop o).take n) else none
def psplice (c : List PV) (o : Nat) (vs : List PV) : Option (List PV) := if o + vs.length ≤ c.length then some (c.take o ++ vs ++ c.drop (o + vs.length)) else none
def pget (l : List PV) (o : Nat) : Option PV := l[o]?
def prep (n : Nat) (z : List PV) : List PV := (List.replicate n z).flatten
def PV.cellsOf : PV → List PV
  | .agg l => l
  | v => [v]
def PV.cells? : PV → Option (List PV)
  | .und => none
  | .agg l => some l
  | v => some [v]
def PV.okCell : PV → Bool
  | .agg _ | .tup _ | .und | .pls _ _ _ => false
  | .ls (.fresh _ _) _ _ => false
  | _ => true
def pokCells : List PV → Bool
  | [] => true
  | x :: l => match x.okCell with
    | true => pokCells l
    | false => false

/-- Nothing of what was lent stands in it, and nothing that is written to. -/
inductive Plain : PV → Prop
  | b (x) : Plain (.b x)
  | i (k n) : Plain (.i k n)
  | s (x) : Plain (.s x)
  | nilp : Plain .nilp
  | ls (t n cs) : Plain (.ls (.v false t) n cs)
  | nilm : Plain .nilm
  | nilf : Plain .nilf
  | f (fn) : Plain (.f fn [] [])
  | nili : Plain .nili

def ofAV : AV → PV
  | .und => .und | .b x => .b x | .i k n => .i k n | .s x => .s x | .nilp => .nilp | .p _ _ => .und | .nils => nil | .sl _ _ _ _ => .und
  | .nilm => .nilm | .m _ => .und | .nilf => .nilf | .f fn [] [] => .f fn [] [] | .f _ _ _ => .und | .nili => .nili | .ifc _ _ => .und
  | .agg l => .agg (ofAVs l)
  | .tup l => .tup (ofAVs l)
where ofAVs : List AV → List PV
  | [] => []
  | x :: l => ofAV x :: ofAVs l
def ofAVs (l : List AV) : List PV := ofAV.ofAVs l

def AO.pev (rs vs : List PV) : AO → PV
  | .v i => pnth vs i
  | .r i => pnth rs i
  | .c x => ofAV x
def pevs (rs vs : List PV) : List AO → List PV
  | [] => []
  | x :: l => x.pev rs vs :: pevs rs vs l
def pevOpt (rs vs : List PV) : Option AO → Option PV
  | none => none
  | some x => some (x.pev rs vs)

def toA1 : PV → AV
  | .b x => .b x | .i k n => .i k n | .s x => .s x
  | _ => .und
def ofA1 : AV → Option PV
  | .b x => some (.b x) | .i k n => some (.i k n) | .s x => some (.s x)
  | _ => none

def isClo (bo : Bool) : PV → Bool
  | .b _ | .i _ _ | .s _ | .nilp | .nilm | .nilf | .nili => true
  | .f _ [] [] => true
  | .ls (.v b _) _ _ => bo || !b
  | _ => false
def cloL (bo : Bool) : List PV → Bool
  | [] => true
  | x :: l => isClo bo x && cloL bo l

/-! ## Lists' owners -/
/-- May the list be read? -/
def PH.reads (σ : PH) : Tag → Bool
  | .v _ _ => true
  | .own r v => match σ.root r with
    | .live v' _ _ => Nat.beq v v'
    | .shut v' => Nat.beq v v'
    | .gone => false
  | .fresh _ _ => false

def mapC {α : Type} (f : α → PV → Option (PV × α)) : α → List PV → Option (List PV × α)
  | s, [] => some ([], s)
  | s, x :: l => match f s x with
    | some (y, s') => match mapC f s' l with
      | some (r, s'') => some (y :: r, s'')
      | none => none
    | none => none
def mapO (f : PV → Option PV) : List PV → Option (List PV)
  | [] => some []
  | x :: l => match f x, mapO f l with
    | some y, some r => some (y :: r)
    | _, _ => none

/-- A value that is to lie in a list: what it has is written to no more. -/
def clo : Nat → PH → PV → Option (PV × PH)
  | 0, _, _ => none
  | k + 1, σ, v => match v with
    | .b x => some (.b x, σ)
    | .i t n => some (.i t n, σ)
    | .s x => some (.s x, σ)
    | .nilp => some (.nilp, σ)
    | .nilm => some (.nilm, σ)
    | .nilf => some (.nilf, σ)
    | .nili => some (.nili, σ)
    | .f fn [] [] => some (.f fn [] [], σ)
    | .ls (.v false _) n cs => some (.ls (.v false false) n cs, σ)
    | .ls (.own r v) n cs => match σ.root r with
      | .live v' _ _ => match Nat.beq v v' with
        | true => some (.ls (.v false false) n cs, σ.setRoot r (.shut v))
        | false => none
      | .shut v' => match Nat.beq v v' with
        | true => some (.ls (.v false false) n cs, σ)
        | false => none
      | .gone => none
    | .sl b o n _ => match σ.get b with
      | .cells cs (ez + 1) => match psub cs o (n * (ez + 1)) with
        | some l => match mapC (clo k) (σ.put b .dead) l with
          | some (l', σ') => some (.ls (.v false false) n l', σ')
          | none => none
        | none => none
      | _ => none
    | _ => none

/-- A cell, a list, as an argument of a call that writes to nothing of it. -/
def lendC : Nat → PH → PV → Option PV
  | 0, _, _ => none
  | k + 1, σ, v => match v with
    | .b x => some (.b x)
    | .i t n => some (.i t n)
    | .s x => some (.s x)
    | .nilp => some .nilp
    | .nilm => some .nilm
    | .nilf => some .nilf
    | .nili => some .nili
    | .f fn [] [] => some (.f fn [] [])
    | .ls (.v b _) n cs => some (.ls (.v b false) n cs)
    | .ls (.own r v) n cs => match σ.reads (.own r v) with
      | true => some (.ls (.v true false) n cs)
      | false => none
    | .sl b o n _ => match σ.get b with
      | .cells cs (ez + 1) => match psub cs o (n * (ez + 1)) with
        | some l => match mapO (lendC k σ) l with
          | some l' => some (.ls (.v true false) n l')
          | none => none
        | none => none
      | _ => none
    | _ => none
def lend (σ : PH) : PV → Option PV
  | .p b o => match σ.get b with
    | .cells cs _ => match mapO (lendC 8 σ) cs with
      | some l => some (.pls (.v true false) l o)
      | none => none
    | _ => none
  | .pls (.v b t) cs o => some (.pls (.v b t) cs o)
  | .ifc t x => match lendC 8 σ x with
    | some y => some (.ifc t y)
    | none => none
  | .agg l => match mapO (lendC 8 σ) l with
    | some l' => some (.agg l')
    | none => none
  | v => lendC 8 σ v

/-- A value as a call's result: its lists are whoever's that called. -/
def giv1 (σ : PH) (v : PV) : Option (PV × PH) :=
  match v with
  | .ls (.own r v) n cs => match σ.root r with
    | .live v' x ez => match Nat.beq v v' with
      | true => some (.ls (.fresh x ez) n cs, σ.setRoot r .gone)
      | false => none
    | .shut v' => match Nat.beq v v' with
      | true => some (.ls (.v false false) n cs, σ)
      | false => none
    | .gone => none
  | .sl b o n (some c) => match σ.get b, Nat.beq n c with
    | .cells cs (ez + 1), true => match psub cs o (n * (ez + 1)) with
      | some l => match mapC (clo 8) σ l with
        | some (l', σ') => match σ'.get b, n with
          | .cells _ _, m + 1 => some (.ls (.fresh (m + 1) (ez + 1)) (m + 1) l', σ'.put b .dead)
          | .cells _ _, 0 => some (.ls (.v false false) 0 [], σ')
          | _, _ => none
        | none => none
      | none => none
    | _, _ => none
  | .ifc t x => match clo 8 σ x with
    | some (y, σ') => some (.ifc t y, σ')
    | none => none
  | .agg l => match mapC (clo 8) σ l with
    | some (l', σ') => some (.agg l', σ')
    | none => none
  | v => clo 8 σ v
def giv (σ : PH) (v : PV) : Option (PV × PH) :=
  match v with
  | .tup l => match mapC giv1 σ l with
    | some (l', σ') => some (.tup l', σ')
    | none => none
  | v => giv1 σ v

/-- What is done with fresh lists: they are views (d), may be appended to (own), written to (obj). -/
inductive Mode where
  | d | own (e : Nat) | obj | sh

def adj1 (md : Mode) (σ : PH) (v : PV) : Option (PV × PH) :=
  match v with
  | .ls (.fresh x ez) n cs => match md with
    | .own _ => some (.ls (.own σ.rt.length 0) n cs, σ.newRoot (.live 0 x ez))
    | .obj => match x, ez with
      | 0, _ => some (.ls (.v false false) 0 [], σ)
      | _, 0 => none
      | _, _ => some (.sl σ.ob.length 0 n none, σ.push (.cells cs ez))
    | _ => some (.ls (.v false false) n cs, σ)
  | .ls (.v b true) 0 [] => match md with
    | .own e => some (.ls (.own σ.rt.length 0) 0 [], σ.newRoot (.live 0 0 e))
    | _ => some (.ls (.v b true) 0 [], σ)
  | v => some (v, σ)
def adj (md : Mode) (σ : PH) (v : PV) : Option (PV × PH) :=
  match v with
  | .tup l => match mapC (adj1 md) σ l with
    | some (l', σ') => some (.tup l', σ')
    | none => none
  | v => adj1 md σ v

/-! ## Memory -/
def pcellsAt (σ : PH) (a : PV) : Option (List PV × Nat) :=
  match a with
  | .p b o => match σ.get b with
    | .cells c _ => some (c, o)
    | _ => none
  | .pls t c o => match σ.reads t with
    | true => some (c, o)
    | false => none
  | _ => none
def pread (n : Option Nat) (c : List PV) (o : Nat) : Option PV :=
  match n with
  | none => pget c o
  | some k => match psub c o k with
    | some l => some (.agg l)
    | none => none
def ploadAt (σ : PH) (n : Option Nat) (a : PV) : Option PV :=
  match pcellsAt σ a with
  | none => none
  | some (c, o) => pread n c o
def pwriteAt (σ : PH) (b o : Nat) (vs : List PV) : Option PH :=
  match σ.get b with
  | .cells c ez => match Nat.blt b σ.lim, pokCells vs, psplice c o vs with
    | false, true, some c' => some (σ.put b (.cells c' ez))
    | _, _, _ => none
  | _ => none
def pstoreAt (σ : PH) (n : Nat) (a v : PV) : Option PH :=
  match a with
  | .p b o => match Nat.beq v.cellsOf.length n with
    | true => pwriteAt σ b o v.cellsOf
    | false => none
  | _ => none
def pfill (rs vs : List PV) : List PV → List (Nat × Nat × AO) → Option (List PV)
  | c, [] => some c
  | c, (off, size, x) :: ps =>
    match (x.pev rs vs).cells? with
    | none => none
    | some l => match Nat.beq l.length size, psplice c off l with
      | true, some c' => pfill rs vs c' ps
      | _, _ => none

def plenOf (σ : PH) : PV → Option Nat
  | .sl _ _ n _ => some n
  | .ls t n _ => match σ.reads t with
    | true => some n
    | false => none
  | .s x => some x.length
  | _ => none
/-- A slice, that may be read. -/
def pisSl (σ : PH) : PV → Bool
  | .sl _ _ _ _ => true
  | .ls t _ _ => σ.reads t
  | _ => false
def pbytes : List UInt8 → List PV
  | [] => []
  | x :: l => .i .u8 (.ofNat x.toNat) :: pbytes l
/-- The cells that an append, or a copy, takes; they are to lie in a list. -/
def pfirst (σ : PH) (ez n : Nat) (x : PV) : Option (List PV) :=
  match x with
  | .ls t _ cs => match σ.reads t with
    | true => psub cs 0 (n * ez)
    | false => none
  | .sl b o _ _ => match σ.get b with
    | .cells c _ => psub c o (n * ez)
    | _ => none
  | .s x => match ez with
    | 1 => psub (pbytes x) 0 n
    | _ => none
  | _ => none

def isNilL : List PV → Bool
  | [] => true
  | _ => false
def pappendNew (σ : PH) (ez bytes : Nat) (s : PV) (n : Nat) (new : List PV) : Option (PV × PH) :=
  match s with
  | .ls (.v b tight) sn cs => match tight, big (sn + n) bytes, Nat.beq cs.length (sn * ez), !b || isNilL cs with
    | true, false, true, true => some (.ls (.fresh (sn + n) ez) (sn + n) (cs ++ new), σ)
    | _, _, _, _ => none
  | .ls (.own r v) sn cs => match σ.root r with
    | .live v' x ez' => match Nat.beq v v', (Nat.beq x 0 || Nat.beq ez ez') && Nat.blt 0 ez, Nat.beq cs.length (sn * ez) with
      | true, true, true => match Nat.ble (sn + n) x && !Nat.blt r σ.rlim with
        | true => some (.ls (.own r (v + 1)) (sn + n) (cs ++ new), σ.setRoot r (.live (v + 1) x ez))
        | false => match Nat.beq sn x, Nat.blt 0 n, big (sn + n) bytes with
          | true, true, false => some (.ls (.own r (v + 1)) (sn + n) (cs ++ new), σ.setRoot r (.live (v + 1) (sn + n) ez))
          | _, _, _ => none
      | _, _, _ => none
    | _ => none
  | .sl b o sn (some c) => match Nat.ble (sn + n) c with
    | true => match pwriteAt σ b (o + sn * ez) new with
      | some σ' => some (.sl b o (sn + n) (some c), σ')
      | none => none
    | false => none
  | _ => none
def pAppend (σ : PH) (ez bytes : Nat) (s x : PV) : Option (PV × PH) :=
  match plenOf σ x with
  | none => none
  | some 0 => match pisSl σ s with
    | true => some (s, σ)
    | false => none
  | some n => match pfirst σ ez n x with
    | none => none
    | some new => match mapC (clo 8) σ new with
      | some (new, σ) => pappendNew σ ez bytes s n new
      | none => none
def pAppendZ (σ : PH) (ez bytes : Nat) (z : List PV) (s x : PV) : Option (PV × PH) :=
  match x with
  | .i .i64 (.ofNat n) => match Nat.beq n 0 with
    | true => match pisSl σ s with
      | true => some (s, σ)
      | false => none
    | false => match big n bytes, cloL false z, Nat.beq z.length ez with
      | false, true, true => pappendNew σ ez bytes s n (prep n z)
      | _, _, _ => none
  | _ => none
def pCopy (σ : PH) (ez : Nat) (d s : PV) : Option (PV × PH) :=
  match plenOf σ s with
  | none => none
  | some m => match d with
    | .sl b o dn _ => match Nat.min m dn with
      | 0 => some (.i .i64 0, σ)
      | k => match pfirst σ ez k s with
        | some cs => match pwriteAt σ b o cs with
          | some σ' => some (.i .i64 (.ofNat k), σ')
          | none => none
        | none => none
    | .ls t 0 _ => match σ.reads t with
      | true => some (.i .i64 0, σ)
      | false => none
    | _ => none
def pbytesOf : List PV → Option (List UInt8)
  | [] => some []
  | .i .u8 n :: l => match pbytesOf l with
    | some r => some (UInt8.ofNat n.toNat :: r)
    | none => none
  | _ => none

/-! ## Slicing -/
def pbound (x : PV) (y : Nat) : Option Nat :=
  match x with
  | .i _ (.ofNat n) => match Nat.ble n y with
    | true => some n
    | false => none
  | _ => none
def pbounds (len cap : Nat) (lo hi mx : Option PV) : Option (Nat × Nat × Nat) :=
  match (match mx with
    | some v => pbound v cap
    | none => some cap) with
  | none => none
  | some m => match (match hi with
      | some v => pbound v m
      | none => match mx with
        | none => some len
        | some _ => none) with
    | none => none
    | some h => match (match lo with
        | some v => pbound v h
        | none => some 0) with
      | none => none
      | some l => some (l, h, m)
def pSlS (x : PV) (lo hi : Option PV) : Option PV :=
  match x with
  | .s t => match pbounds t.length t.length lo hi none with
    | some (l, h, _) => some (.s (sub8 t l (h - l)))
    | none => none
  | _ => none
def pSlSl (md : Mode) (σ : PH) (ez : Nat) (x : PV) (lo hi mx : Option PV) : Option (PV × PH) :=
  match x with
  | .ls t n cs => match (match σ.reads t with
    | true => pbounds n n lo hi mx
    | false => none) with
    | some (l, h, m) =>
      match Nat.beq h l, Nat.beq m l, (mx.isSome || match t with
          | .v _ true => true
          | _ => false) with
      | true, true, true => some (nil, σ)
      | _, _, _ => match t with
        | .v b tight => match psub cs (l * ez) ((h - l) * ez) with
          | some r => some (.ls (.v b (Nat.beq m h && (tight || mx.isSome))) (h - l) r, σ)
          | none => none
        | .own r v => match psub cs (l * ez) ((h - l) * ez), σ.root r with
          | some q, .live v' x ez' => match Nat.beq v v' with
            | true => match md, l, mx with
              | .own _, 0, none => some (.ls (.own r (v + 1)) h q, σ.setRoot r (.live (v + 1) x ez'))
              | _, _, _ => some (.ls (.v false (Nat.beq m h && mx.isSome)) (h - l) q, σ.setRoot r (.shut v))
            | false => none
          | some q, .shut v' => match Nat.beq v v' with
            | true => some (.ls (.v false (Nat.beq m h && mx.isSome)) (h - l) q, σ)
            | false => none
          | _, _ => none
        | .fresh _ _ => none
    | none => none
  | .sl b o n c => match pbounds n (c.getD n) lo hi mx with
    | some (l, h, m) => some (.sl b (o + l * ez) (h - l) (match c, mx with
      | none, none => none
      | _, _ => some (m - l)), σ)
    | none => none
  | _ => none
def pSlA (σ : PH) (n ez : Nat) (x : PV) (lo hi mx : Option PV) : Option PV :=
  match x with
  | .p b o => match pbounds n n lo hi mx with
    | some (l, h, m) => some (.sl b (o + l * ez) (h - l) (some (m - l)))
    | none => none
  | _ => none

/-! ## Keys, equality -/
def pleafEq (n : Nat) (x y : PV) : Option Bool := leafEq n (toA1 x) (toA1 y)
def pleavesEq : List Nat → List PV → List PV → Option Bool
  | [], [], [] => some true
  | l :: ls, x :: xs, y :: ys => match pleafEq l x y with
    | some true => pleavesEq ls xs ys
    | some false => some false
    | none => none
  | _, _, _ => none
def pEq : Nat → PV → PV → Option Bool
  | 0, .b x, .b y => some (x == y)
  | 1, .nilp, .nilp => some true
  | 1, .p _ _, .nilp => some false
  | 1, .nilp, .p _ _ => some false
  | 1, .p b o, .p b' o' => match Nat.beq b b' with
    | true => some (Nat.beq o o')
    | false => none
  | 3, .nilm, .nilm => some true
  | 3, .m _, .nilm => some false
  | 3, .nilm, .m _ => some false
  | 4, .nilf, .nilf => some true
  | 4, .f _ _ _, .nilf => some false
  | 4, .nilf, .f _ _ _ => some false
  | 5, .nili, .nili => some true
  | 5, .ifc _ _, .nili => some false
  | 5, .nili, .ifc _ _ => some false
  | _, _, _ => none
/-- A list against nil: one that holds something is not nil. -/
def pNilEq (σ : PH) (kd : Nat) (x : PV) (y : AO) : Option Bool :=
  match kd, y, x with
  | 2, .c .nils, .ls t (_ + 1) _ => match σ.reads t with
    | true => some false
    | false => none
  | 2, .c .nils, .sl _ _ (_ + 1) _ => some false
  | _, _, _ => none
def pkeyEq (kk : KK) (a b : PV) : Option Bool :=
  match kk with
  | .sc l => pleafEq l a b
  | .st ls => match a, b with
    | .agg x, .agg y => pleavesEq ls x y
    | _, _ => none
def pmfind (kk : KK) (k : PV) : List (PV × PV × Nat) → Nat → Option (Option (Nat × PV × Nat))
  | [], _ => some none
  | (k', v, b) :: es, j => match pkeyEq kk k k' with
    | some true => some (some (j, v, b))
    | some false => pmfind kk k es (j + 1)
    | none => none
def pmset : List (PV × PV × Nat) → Nat → PV → List (PV × PV × Nat)
  | [], _, _ => []
  | (k, _, b) :: es, 0, v => (k, v, b) :: es
  | e :: es, j + 1, v => e :: pmset es j v
def pmdel : List (PV × PV × Nat) → Nat → List (PV × PV × Nat)
  | [], _ => []
  | _ :: es, 0 => es
  | e :: es, j + 1 => e :: pmdel es j
def pmborn : List (PV × PV × Nat) → Nat → Nat → Option Nat
  | [], _, _ => none
  | (_, _, b) :: es, s, j => match Nat.beq b s with
    | true => some j
    | false => pmborn es s (j + 1)
def pokKey (kk : KK) (k : PV) : Bool :=
  match pkeyEq kk k k with
  | some _ => true
  | none => false
def plookOut (ok : Bool) (v : PV) (is : Bool) : PV :=
  match ok with
  | true => .tup [v, .b is]
  | false => v
def pLook (σ : PH) (kk : KK) (z : PV) (ok : Bool) (m k : PV) : Option PV :=
  match pokKey kk k, m with
  | true, .nilm => some (plookOut ok z false)
  | true, .m b => match σ.get b with
    | .map es _ => match pmfind kk k es 0 with
      | some (some (_, v, _)) => some (plookOut ok v true)
      | some none => some (plookOut ok z false)
      | none => none
    | _ => none
  | _, _ => none
def pMupd (σ : PH) (kk : KK) (m k v : PV) : Option PH :=
  match pokKey kk k, m with
  | true, .m b => match σ.get b, Nat.blt b σ.lim with
    | .map es cl, false => match pmfind kk k es 0 with
      | some (some (j, _, _)) => some (σ.put b (.map (pmset es j v) cl))
      | some none => some (σ.put b (.map (es ++ [(k, v, cl)]) (cl + 1)))
      | none => none
    | _, _ => none
  | _, _ => none
def pMent (σ : PH) (kk : KK) (z m k : PV) : Option (PV × PH) :=
  match pokKey kk k, m with
  | true, .m b => match σ.get b, Nat.blt b σ.lim with
    | .map es cl, false => match pmfind kk k es 0 with
      | some (some (_, v, s)) => some (.tup [v, .i .i64 (.ofNat s)], σ)
      | some none => some (.tup [z, .i .i64 (.ofNat cl)], σ.put b (.map (es ++ [(k, z, cl)]) (cl + 1)))
      | none => none
    | _, _ => none
  | _, _ => none
def pEstore (σ : PH) (m s v : PV) : Option PH :=
  match m, s with
  | .m b, .i _ (.ofNat n) => match σ.get b, Nat.blt b σ.lim with
    | .map es cl, false => match pmborn es n 0 with
      | some j => some (σ.put b (.map (pmset es j v) cl))
      | none => none
    | _, _ => none
  | _, _ => none
def pDel (σ : PH) (kk : KK) (m k : PV) : Option PH :=
  match pokKey kk k, m with
  | true, .nilm => some σ
  | true, .m b => match σ.get b, Nat.blt b σ.lim with
    | .map es cl, false => match pmfind kk k es 0 with
      | some (some (j, _, _)) => some (σ.put b (.map (pmdel es j) cl))
      | some none => some σ
      | none => none
    | _, _ => none
  | _, _ => none

/-! ## One operation -/
def pLen (σ : PH) : Nat → PV → Option PV
  | 0, .s x => some (.i .i64 (.ofNat x.length))
  | 1, .sl _ _ n _ => some (.i .i64 (.ofNat n))
  | 1, .ls t n _ => match σ.reads t with
    | true => some (.i .i64 (.ofNat n))
    | false => none
  | 2, .nilm => some (.i .i64 0)
  | 2, .m b => match σ.get b with
    | .map es _ => some (.i .i64 (.ofNat es.length))
    | _ => none
  | _, _ => none
def pCapOf : PV → Option PV
  | .sl _ _ _ (some c) => some (.i .i64 (.ofNat c))
  | .ls (.v _ true) n _ => some (.i .i64 (.ofNat n))
  | _ => none
def pIndex (i : PV) (n : Nat) : Option Nat :=
  match i with
  | .i _ (.ofNat j) => match Nat.blt j n with
    | true => some j
    | false => none
  | _ => none
def pBin (op : BinOp) (x y : PV) : Option PV :=
  match aBin op (toA1 x) (toA1 y) with
  | some v => ofA1 v
  | none => none
def pUn (op : UnOp) (x : PV) : Option PV :=
  match aUn op (toA1 x) with
  | some v => ofA1 v
  | none => none
def pMin (l : List PV) : Option PV :=
  match aMin (l.map toA1) with
  | some v => ofA1 v
  | none => none
def pMax (l : List PV) : Option PV :=
  match aMax (l.map toA1) with
  | some v => ofA1 v
  | none => none
def pFld (off : Nat) (n : Option Nat) (x : PV) : Option PV :=
  match x with
  | .agg l => match n with
    | none => pget l off
    | some k => match psub l off k with
      | some r => some (.agg r)
      | none => none
  | _ => none
def pret (σ : PH) : Option PV → Option (PV × PH)
  | some v => some (v, σ)
  | none => none
def pskip : Option PH → Option (PV × PH)
  | some σ => some (.tup [], σ)
  | none => none
def pmapB (neg : Bool) : Option Bool → Option PV
  | some x => some (.b (xor neg x))
  | none => none

/-- An operation that calls no function. -/
def pop (md : Mode) (o : AOp) (rs vs : List PV) (σ : PH) : Option (PV × PH) :=
  match o with
  | .mv x => some (x.pev rs vs, σ)
  | .pick c a b => match c.pev rs vs with
    | .b true => some (a.pev rs vs, σ)
    | .b false => some (b.pev rs vs, σ)
    | _ => none
  | .box x => match (x.pev rs vs).cells? with
    | some l => match pokCells l with
      | true => some (.p σ.ob.length 0, σ.push (.cells l 0))
      | false => none
    | none => none
  | .build z ps => match pfill rs vs (ofAVs z) ps with
    | some l => some (.agg l, σ)
    | none => none
  | .buildSl n ez z ps => match pfill rs vs (prep n (ofAVs z)) ps with
    | some l => match md with
      | .obj => match pokCells l with
        | true => some (.sl σ.ob.length 0 n (some n), σ.push (.cells l ez))
        | false => none
      | .own _ => match mapC (clo 8) σ l with
        | some (l', σ') => match Nat.beq l.length (n * ez) with
          | true => some (.ls (.fresh n ez) n l', σ')
          | false => none
        | none => none
      | _ => match mapC (clo 8) σ l with
        | some (l', σ') => some (.ls (.v false true) n l', σ')
        | none => none
    | none => none
  | .load n a => pret σ (ploadAt σ n (a.pev rs vs))
  | .store n a v => pskip (pstoreAt σ n (a.pev rs vs) (v.pev rs vs))
  | .nilck x => match x.pev rs vs with
    | .p b o => some (.p b o, σ)
    | .pls t c o => match σ.reads t with
      | true => some (.pls t c o, σ)
      | false => none
    | .f a b c => some (.f a b c, σ)
    | _ => none
  | .asS x => match x.pev rs vs with
    | .s t => some (.s t, σ)
    | _ => none
  | .bad => none
  | .bin op x y => pret σ (pBin op (x.pev rs vs) (y.pev rs vs))
  | .eq neg kd x y => match pNilEq σ kd (x.pev rs vs) y with
    | some b => some (.b (xor neg b), σ)
    | none => pret σ (pmapB neg (pEq kd (x.pev rs vs) (y.pev rs vs)))
  | .eqA neg ls x y => match x.pev rs vs, y.pev rs vs with
    | .agg a, .agg b => pret σ (pmapB neg (pleavesEq ls a b))
    | _, _ => none
  | .un op x => pret σ (pUn op (x.pev rs vs))
  | .conv k x => match x.pev rs vs with
    | .i _ n => some (.i k (awrap k n), σ)
    | _ => none
  | .s2b x => match x.pev rs vs with
    | .s [] => some (.ls (.v false false) 0 [], σ)
    | .s t => some (.ls (.fresh t.length 1) t.length (pbytes t), σ)
    | _ => none
  | .b2s x => match pisSl σ (x.pev rs vs), plenOf σ (x.pev rs vs) with
    | true, some n => match pfirst σ 1 n (x.pev rs vs) with
      | some l => match pbytesOf l with
        | some t => some (.s t, σ)
        | none => none
      | none => none
    | _, _ => none
  | .mkifc t x => some (.ifc t (x.pev rs vs), σ)
  | .mkfn f fi ca => some (.f f (pevs rs vs fi) (pevs rs vs ca), σ)
  | .mkmap => some (.m σ.ob.length, σ.push (.map [] 0))
  | .mksl ez bytes z n c => match n.pev rs vs, c.pev rs vs with
    | .i .i64 (.ofNat n), .i .i64 (.ofNat c) => match Nat.ble n c, Nat.ble (bytes * c) 281474976710656, Nat.ble c 4611686018427387904 with
      | true, true, true => some (.sl σ.ob.length 0 n (some c), σ.push (.cells (prep c (ofAVs z)) ez))
      | _, _, _ => none
    | _, _ => none
  | .slS x lo hi => pret σ (pSlS (x.pev rs vs) (pevOpt rs vs lo) (pevOpt rs vs hi))
  | .slSl ez x lo hi mx => pSlSl md σ ez (x.pev rs vs) (pevOpt rs vs lo) (pevOpt rs vs hi) (pevOpt rs vs mx)
  | .slA n ez x lo hi mx => pret σ (pSlA σ n ez (x.pev rs vs) (pevOpt rs vs lo) (pevOpt rs vs hi) (pevOpt rs vs mx))
  | .faddr off x => match x.pev rs vs with
    | .p b o => some (.p b (o + off), σ)
    | .pls t c o => match σ.reads t with
      | true => some (.pls t c (o + off), σ)
      | false => none
    | _ => none
  | .fld off n x => pret σ (pFld off n (x.pev rs vs))
  | .iaA n ez x i => match x.pev rs vs, pIndex (i.pev rs vs) n with
    | .p b o, some j => some (.p b (o + j * ez), σ)
    | .pls t c o, some j => match σ.reads t with
      | true => some (.pls t c (o + j * ez), σ)
      | false => none
    | _, _ => none
  | .iaS ez x i => match x.pev rs vs with
    | .sl b o n _ => match pIndex (i.pev rs vs) n with
      | some j => some (.p b (o + j * ez), σ)
      | none => none
    | .ls t n cs => match pIndex (i.pev rs vs) n, σ.reads t with
      | some j, true => some (.pls t cs (j * ez), σ)
      | _, _ => none
    | _ => none
  | .idxA n ez ag x i => match pIndex (i.pev rs vs) n with
    | some j => pret σ (pFld (j * ez) (match ag with
      | true => some ez
      | false => none) (x.pev rs vs))
    | none => none
  | .idxS x i => match x.pev rs vs, i.pev rs vs with
    | .s t, .i _ (.ofNat j) => match nth8 t j with
      | some y => some (.i .u8 (.ofNat y.toNat), σ)
      | none => none
    | _, _ => none
  | .look kk z ok m k => pret σ (pLook σ kk (ofAV z) ok (m.pev rs vs) (k.pev rs vs))
  | .mupd kk m k v => pskip (pMupd σ kk (m.pev rs vs) (k.pev rs vs) (v.pev rs vs))
  | .ment kk z m k => pMent σ kk (ofAV z) (m.pev rs vs) (k.pev rs vs)
  | .estore m s v => pskip (pEstore σ (m.pev rs vs) (s.pev rs vs) (v.pev rs vs))
  | .del kk m k => match pDel σ kk (m.pev rs vs) (k.pev rs vs) with
    | some σ' => some (.tup [], σ')
    | none => none
  | .ext i x => match x.pev rs vs with
    | .tup l => pret σ (pget l i)
    | _ => none
  | .len k x => pret σ (pLen σ k (x.pev rs vs))
  | .cap x => pret σ (pCapOf (x.pev rs vs))
  | .append ez bytes s x => pAppend σ ez bytes (s.pev rs vs) (x.pev rs vs)
  | .appendZ ez bytes z s x => pAppendZ σ ez bytes (ofAVs z) (s.pev rs vs) (x.pev rs vs)
  | .copy ez d s => pCopy σ ez (d.pev rs vs) (s.pev rs vs)
  | .min xs => pret σ (pMin (pevs rs vs xs))
  | .max xs => pret σ (pMax (pevs rs vs xs))
  | .call _ _ => none

/-! ## Code -/
structure PRO where
  op : AOp
  guard : Option (Nat × Bool)
  var : Option Nat
  bar : Bar
  md : Mode
inductive PCode where
  | skip
  | ret
  | reg (ops : List PRO)
  | seq (a b : PCode)
  | cond (c : AO) (a b : PCode)
  | blk (id : Nat) (c : PCode)
  | loop (c : PCode)
  | exit (id : Nat)
  | bad
  | thaw (j : Nat) (c : PCode)
structure PFunc where
  ini : List (Option Nat)
  res : List ARes
  body : PCode
def PRO.era (o : PRO) : ARO := ⟨o.op, o.guard, o.var, o.bar⟩
def eras : List PRO → List ARO
  | [] => []
  | o :: l => o.era :: eras l
def PCode.era : PCode → ACode
  | .skip => .skip
  | .ret => .ret
  | .reg ops => .reg (eras ops)
  | .seq a b => .seq a.era b.era
  | .cond c a b => .cond c a.era b.era
  | .blk id c => .blk id c.era
  | .loop c => .loop c.era
  | .exit id => .exit id
  | .bad => .bad
  | .thaw _ c => c.era
def PFunc.era (F : PFunc) : AFunc := ⟨F.ini, F.res, F.body.era⟩

structure PSt where
  vs : List PV
  h : PH
abbrev PCall := Nat → List PV → PH → Option (PV × PH)

def psetVar (vs : List PV) (o : Option Nat) (v : PV) : List PV :=
  match o with
  | none => vs
  | some i => psetn vs i v
def pwanted (rs : List PV) : Option (Nat × Bool) → Option Bool
  | none => some true
  | some (i, w) => match pnth rs i with
    | .b x => some (x == w)
    | .tup [] => some false
    | _ => none
/-- A call with lent values alone: its result. -/
def iso (call : PCall) (f : Nat) (as : List PV) : Option PV :=
  match call f as .empty with
  | some (v, σ) => match giv σ v with
    | some (y, _) => some y
    | none => none
  | none => none
def pcall (call : PCall) (md : Mode) (f : Nat) (as : List PV) (σ : PH) : Option (PV × PH) :=
  match md with
  | .sh => call f as σ
  | _ => match mapO (lend σ) as with
    | some as' => match iso call f as' with
      | some v => some (v, σ)
      | none => none
    | none => none
def pstepOp (call : PCall) (md : Mode) (o : AOp) (rs vs : List PV) (σ : PH) : Option (PV × PH) :=
  match (match o with
    | .call f as => match f.pev rs vs with
      | .f fn fi ca => pcall call md fn (fi ++ (pevs rs vs as ++ ca)) σ
      | _ => none
    | o => pop md o rs vs σ) with
  | some (v, σ') => adj md σ' v
  | none => none
def isBoxP (o : PRO) : Bool := match o.op, o.guard with
  | .box _, none => true
  | _, _ => false
/-- May it be run beside others? -/
def pnewOk (o : PRO) : Bool :=
  match o.op with
  | .call _ _ => match o.md with
    | .sh => false
    | _ => true
  | op => !actsA op
/-- Does it write to the newest object? -/
def plastOk (o : PRO) (rs vs : List PV) (σ : PH) : Bool :=
  match o.op with
  | .store _ a _ => match a.pev rs vs with
    | .p b _ => Nat.beq (b + 1) σ.ob.length
    | _ => false
  | _ => false
/-- top: the operation just ahead made an object. -/
def pstepBar (call : PCall) (top : Bool) (o : PRO) (rs vs : List PV) (σ : PH) : Option (PV × PH) :=
  match (match o.bar with
    | .full => true
    | .new => pnewOk o
    | .last => top && plastOk o rs vs σ) with
  | true => pstepOp call o.md o.op rs vs σ
  | false => none
def prunOps (call : PCall) : Bool → List PRO → List PV → List PV → PH → Option PSt
  | _, [], _, vs, σ => some ⟨vs, σ⟩
  | top, o :: os, rs, vs, σ => match pwanted rs o.guard with
    | some true => match pstepBar call top o rs vs σ with
      | some (v, σ') => prunOps call (isBoxP o) os (v :: rs) (psetVar vs o.var v) σ'
      | none => none
    | some false => prunOps call false os (.tup [] :: rs) (psetVar vs o.var (.tup [])) σ
    | none => none
def piter (f : PSt → Option (Ex × PSt)) : Nat → PSt → Option (Ex × PSt)
  | 0, _ => none
  | n + 1, s => match f s with
    | some (.norm, s') => piter f n s'
    | r => r
/-- A variable's list, that may be appended to, becomes one that may be written to. -/
def pthaw (j : Nat) (s : PSt) : Option PSt :=
  match pnth s.vs j with
  | .ls (.own r v) n cs => match Nat.beq n 0 with
    | true => some s
    | false => match s.h.root r with
      | .live v' _ (ez + 1) => match Nat.beq v v', Nat.blt r s.h.rlim with
        | true, false => some ⟨psetn s.vs j (.sl s.h.ob.length 0 n none), (s.h.setRoot r .gone).push (.cells cs (ez + 1))⟩
        | _, _ => none
      | _ => none
  | _ => none
def pden (call : PCall) (lf : Nat) : PCode → PSt → Option (Ex × PSt)
  | .skip, s => some (.norm, s)
  | .ret, s => some (.ret, s)
  | .exit id, s => some (.exit id, s)
  | .reg ops, s => match prunOps call false ops [] s.vs s.h with
    | some s' => some (.norm, s')
    | none => none
  | .seq a b, s => match pden call lf a s with
    | some (.norm, s') => pden call lf b s'
    | r => r
  | .cond c a b, s => match c.pev [] s.vs with
    | .b true => pden call lf a s
    | .b false => pden call lf b s
    | _ => none
  | .blk id c, s => match pden call lf c s with
    | some (.exit j, s') => match Nat.beq j id with
      | true => some (.norm, s')
      | false => some (.exit j, s')
    | r => r
  | .loop c, s => piter (pden call lf c) lf s
  | .bad, _ => none
  | .thaw j c, s => match pthaw j s with
    | some s' => pden call lf c s'
    | none => none
def pinits (as : List PV) : List (Option Nat) → List PV
  | [] => []
  | none :: l => .und :: pinits as l
  | some i :: l => pnth as i :: pinits as l
def presOf (s : PSt) : ARes → Option PV
  | .v i => some (pnth s.vs i)
  | .cell i n => ploadAt s.h n (pnth s.vs i)
def presAll (s : PSt) : List ARes → Option (List PV)
  | [] => some []
  | r :: l => match presOf s r, presAll s l with
    | some v, some vs => some (v :: vs)
    | _, _ => none
def presult : List PV → PV
  | [v] => v
  | l => .tup l
def pcallWith (call : PCall) (lf : Nat) (F : PFunc) (as : List PV) (σ : PH) : Option (PV × PH) :=
  match pden call lf F.body ⟨pinits as F.ini, σ⟩ with
  | some (.exit _, _) => none
  | some (_, s) => match presAll s F.res with
    | some l => some (presult l, s.h)
    | none => none
  | none => none
def prun (fns : Nat → Option PFunc) (lf : Nat) : Nat → PCall
  | 0, _, _, _ => none
  | d + 1, f, as, σ => match fns f with
    | some F => pcallWith (prun fns lf d) lf F as σ
    | none => none
end Go.Av
