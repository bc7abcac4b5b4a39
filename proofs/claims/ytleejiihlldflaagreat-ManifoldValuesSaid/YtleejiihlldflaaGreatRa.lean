/-
  THE ABSTRACT MACHINE: values as pure data, local variables as private blocks; a run in continuation style that the kernel carries out.
  Nothing of the program stands here.
-/
import Derived.Calls
import Derived.KernelRfl
namespace Go.RX

/-- Types of pure data. -/
inductive Ty where
  | unit | int (k : IntKind) | bool | str | list (t : Ty) | one (t : Ty) | pair (a b : Ty)
  deriving DecidableEq

@[reducible] def Ty.den : Ty → Type
  | .unit => Unit
  | .int _ => Int
  | .bool => Bool
  | .str => ByteArray
  | .list t => List t.den
  | .one t => t.den
  | .pair a b => a.den × b.den

def Ty.width : Ty → Nat
  | .unit => 0
  | .one t => t.width
  | .pair a b => a.width + b.width
  | _ => 1

def Ty.isAgg : Ty → Bool
  | .unit => true
  | .one _ => true
  | .pair _ _ => true
  | _ => false

def Ty.dflt : (t : Ty) → t.den
  | .unit => ()
  | .int _ => (0 : Int)
  | .bool => false
  | .str => ByteArray.empty
  | .list _ => []
  | .one t => t.dflt
  | .pair a b => (a.dflt, b.dflt)

/-- Abstract values. -/
inductive AV where
  | top
  | int (k : IntKind) (n : Int)
  | bool (b : Bool)
  | str (s : ByteArray)
  | lst (t : Ty) (xs : List t.den)
  | nils
  | vec (k : Nat)
  | eptr (t : Ty) (x : t.den) (off : Nat)
  | vptr (k : Nat) (i : Nat) (off : Nat)
  | ptr (b off : Nat)
  | nilp
  | fn (f : FuncId) (first caps : List AV)
  | nilf
  | agg (cells : List AV)
  | tup (vs : List AV)
  | opq (v : Value)

/-- Objects of the private heap. -/
inductive HObj where
  | val (cells : List AV) (lk : Bool)
  | vec (e : TypeId) (t : Ty) (xs : List t.den) (lk : Bool)
  | dead
  | free

structure St where
  tmps : List AV
  heap : List HObj

inductive TK where
  | int (k : IntKind) | bool | str | slice (e : TypeId) | arr (n : Nat) (e : TypeId) | struct (offs : List (Nat × Nat)) | other
  deriving DecidableEq

structure TRow where
  k : TK
  size : Nat
  bytes : Nat
  z : List Value
  dt : Ty

universe u
def look {α : Type u} : List (Nat × α) → Nat → Option α
  | [], _ => none
  | (k, v) :: l, t => bif Nat.beq k t then some v else look l t

def ofAtom : Value → AV
  | .int k n => .int k n
  | .bool b => .bool b
  | .string s => .str s
  | .pointer none => .nilp
  | .slice none 0 0 => .nils
  | .nilFunc => .nilf
  | _ => .top

def ofConst : Value → AV
  | .agg cs => .agg (cs.toList.map ofAtom)
  | v => ofAtom v

def flat : (t : Ty) → t.den → List AV
  | .unit, _ => []
  | .int k, x => [.int k x]
  | .bool, x => [.bool x]
  | .str, x => [.str x]
  | .list t, x => [.lst t x]
  | .one t, x => flat t x
  | .pair a b, x => flat a x.1 ++ flat b x.2

def castL {t t' : Ty} (h : t = t') (xs : List t.den) : List t'.den := h ▸ xs

def unflat (h : List HObj) : (t : Ty) → List AV → Option (t.den × List AV)
  | .unit, cs => some ((), cs)
  | .int k, c :: cs => match c with
    | .int k' n => if k' = k then some (n, cs) else none
    | _ => none
  | .bool, c :: cs => match c with
    | .bool b => some (b, cs)
    | _ => none
  | .str, c :: cs => match c with
    | .str s => some (s, cs)
    | _ => none
  | .list t, c :: cs => match c with
    | .lst t' xs => if h : t' = t then some (castL h xs, cs) else none
    | .nils => some ([], cs)
    | .vec k => match h[k]? with
      | some (.vec _ t' xs _) => if h : t' = t then some (castL h xs, cs) else none
      | _ => none
    | _ => none
  | .one t, cs => unflat h t cs
  | .pair a b, cs => match unflat h a cs with
    | some (x, cs') => match unflat h b cs' with
      | some (y, cs'') => some ((x, y), cs'')
      | none => none
    | none => none
  | _, [] => none

/-- The vectors named among cells. -/
def vecIds : List AV → List Nat
  | [] => []
  | .vec k :: cs => k :: vecIds cs
  | _ :: cs => vecIds cs

def lockAt (k : Nat) (h : List HObj) : List HObj :=
  match h[k]? with
  | some (.vec e t xs _) => h.set k (.vec e t xs true)
  | some (.val cs _) => h.set k (.val cs true)
  | _ => h

def lockAll : List Nat → List HObj → List HObj
  | [], h => h
  | k :: ks, h => lockAll ks (lockAt k h)

def cellsOf : AV → List AV
  | .agg cs => cs
  | v => [v]

/-- A whole value as data of a type. -/
def toD (h : List HObj) (T : Ty) (v : AV) : Option T.den :=
  bif T.isAgg then
    match v with
    | .agg cs => match unflat h T cs with
      | some (x, []) => some x
      | _ => none
    | _ => none
  else match unflat h T [v] with
    | some (x, []) => some x
    | _ => none

def ofD (T : Ty) (x : T.den) : AV :=
  bif T.isAgg then .agg (flat T x) else (flat T x).headD .top

/-- n cells at an address. -/
def rd (h : List HObj) (a : AV) (n : Nat) : Option (List AV) :=
  match a with
  | .ptr b off => match h[b]? with
    | some (.val cs _) => bif Nat.ble (off + n) cs.length then some ((cs.drop off).take n) else none
    | _ => none
  | .eptr t x off => bif Nat.ble (off + n) t.width then some (((flat t x).drop off).take n) else none
  | .vptr k i off => match h[k]? with
    | some (.vec _ t xs _) => bif Nat.ble (off + n) t.width then some (((flat t (xs.getD i t.dflt)).drop off).take n) else none
    | _ => none
  | _ => none

/-- One cell, and a known one. -/
def atomA : AV → Bool
  | .top => false
  | .agg _ => false
  | .tup _ => false
  | .opq _ => false
  | _ => true

def splice (cs : List AV) (off : Nat) (vs : List AV) : List AV := cs.take off ++ vs ++ cs.drop (off + vs.length)

def wr (h : List HObj) (a : AV) (vs : List AV) : Option (List HObj) :=
  match a with
  | .ptr b off => match h[b]? with
    | some (.val cs false) => bif Nat.ble (off + vs.length) cs.length then some (h.set b (.val (splice cs off vs) false)) else none
    | _ => none
  | .vptr k i off => match h[k]? with
    | some (.vec e t xs false) => bif Nat.ble (off + vs.length) t.width && (vecIds vs).all (fun j => !Nat.beq j k) then
        match unflat h t (splice (flat t (xs.getD i t.dflt)) off vs) with
        | some (x, []) => some ((lockAll (vecIds vs) h).set k (.vec e t (xs.set i x) false))
        | _ => none
      else none
    | _ => none
  | _ => none

/-- What an operation yields: the value, the heap, and which objects it has looked at and turned. -/
structure Out where
  g : Bool
  v : AV
  h : List HObj
  rd : List Nat := []
  wr : List Nat := []
  eff : Bool := false

def Out.pure (v : AV) (h : List HObj) : Out := { g := true, v := v, h := h }

def rdIds : AV → List Nat
  | .ptr b _ => [b]
  | .vptr k _ _ => [k]
  | .vec k => [k]
  | _ => []

def cmpI (op : BinOp) (x y : Int) : Option Bool :=
  match op with
  | .eql => some (decide (x = y))
  | .neq => some (!decide (x = y))
  | .lss => some (decide (x < y))
  | .leq => some (decide (x ≤ y))
  | .gtr => some (decide (y < x))
  | .geq => some (decide (y ≤ x))
  | _ => none

/-- Equality, cell by cell, of cells of these kinds. -/
def eqCells : List TK → List AV → List AV → Option Bool
  | [], [], [] => some true
  | .int k :: ks, .int k1 x :: xs, .int k2 y :: ys => if k1 = k ∧ k2 = k then match eqCells ks xs ys with
    | some b => some (decide (x = y) && b)
    | none => none
    else none
  | .bool :: ks, .bool x :: xs, .bool y :: ys => match eqCells ks xs ys with
    | some b => some ((x == y) && b)
    | none => none
  | .str :: ks, .str x :: xs, .str y :: ys => match eqCells ks xs ys with
    | some b => some ((x.toList == y.toList) && b)
    | none => none
  | _, _, _ => none

def bitI (op : BinOp) (k : IntKind) (x y : Int) : Int :=
  let a := BitVec.ofInt k.bits x
  let b := BitVec.ofInt k.bits y
  match op with
  | .and => k.wrap (a &&& b).toNat
  | .or => k.wrap (a ||| b).toNat
  | .xor => k.wrap (a ^^^ b).toNat
  | _ => k.wrap (a &&& ~~~b).toNat

def shlI (k : IntKind) (x y : Int) : Int := k.wrap (x * 2 ^ (Nat.min y.toNat k.bits))
def shrI (k : IntKind) (x y : Int) : Int := x.fdiv (2 ^ (Nat.min y.toNat k.bits))

def unA (op : UnOp) (x : AV) (h : List HObj) : Option Out :=
  match op, x with
  | .neg, .int k n => some (.pure (.int k (k.wrap (0 - n))) h)
  | .not, .bool b => some (.pure (.bool !b) h)
  | _, _ => none

def minA : AV → List AV → Option AV
  | x, [] => some x
  | .int k a, .int k' b :: r => if k = k' then minA (.int k (if b < a then b else a)) r else none
  | _, _ => none
def maxA : AV → List AV → Option AV
  | x, [] => some x
  | .int k a, .int k' b :: r => if k = k' then maxA (.int k (if b > a then b else a)) r else none
  | _, _ => none

/-- The elements of a slice as data. -/
def elems (h : List HObj) (t : Ty) (v : AV) : Option (List t.den) :=
  match unflat h (.list t) [v] with
  | some (xs, []) => some xs
  | _ => none

def room (n : Nat) : Bool := decide (n ≤ 4294967296)

def fills (w : Nat) (cs : List AV) : List (Nat × List AV) → Option (List AV)
  | [] => some cs
  | (i, vs) :: r => bif Nat.beq vs.length w && Nat.ble (i * w + w) cs.length then fills w (splice cs (i * w) vs) r else none

def fillS (offs : List (Nat × Nat)) (cs : List AV) : List (Nat × List AV) → Option (List AV)
  | [] => some cs
  | (i, vs) :: r => match offs[i]? with
    | some o => bif Nat.beq vs.length o.2 && Nat.ble (o.1 + vs.length) cs.length then fillS offs (splice cs o.1 vs) r else none
    | none => none

/-- Rows of cells as data. -/
def unrows (h : List HObj) (t : Ty) : Nat → List AV → Option (List t.den)
  | 0, _ => some []
  | n + 1, cs => match unflat h t cs with
    | some (x, r) => match unrows h t n r with
      | some xs => some (x :: xs)
      | none => none
    | none => none

def repl (n : Nat) (z : List AV) : List AV := (List.replicate n z).flatten

end Go.RX
