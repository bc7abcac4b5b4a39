/-
  THE ABSTRACT MACHINE, SECOND PART: operations, calls by contract, the run of code.
-/
import Derived.Test.YtleejiihlldflaaGreatRa
import Derived.Orders
namespace Go.RX

/-- What an operation has looked at and turned. -/
structure Foot where
  rd : List Nat := []
  wr : List Nat := []
  eff : Bool := false

def noVec (vs : List AV) : Bool := vs.all fun v => (vecIds (cellsOf v)).isEmpty

/-- A contract as the run uses it: what it says ('sem'), and the same in continuation style. -/
structure Hd where
  sem : List AV → List HObj → Option (AV × List HObj)
  cps : {R : Type} → List AV → List HObj → (AV → List HObj → Option R) → Option R
  ok : ∀ {R : Type} (vs : List AV) (h : List HObj) (K : AV → List HObj → Option R), cps vs h K = (sem vs h).bind fun p => K p.1 p.2
  quiet : Bool
  qok : quiet = true → ∀ vs h r h', noVec vs = true → sem vs h = some (r, h') → h' = h ∧ ∀ h2, sem vs h2 = some (r, h2)
  ft : List AV → List HObj → Option Foot := fun _ _ => none
  fok : ∀ vs h f r h', ft vs h = some f → sem vs h = some (r, h') → f.eff = true ∧ (∀ b, b ∉ f.wr → h'[b]? = h[b]?) ∧
    ∀ h2 : List HObj, h2.length = h.length → (∀ b ∈ f.rd ++ f.wr, h2[b]? = h[b]?) →
      ∃ h2', sem vs h2 = some (r, h2') ∧ ft vs h2 = some f ∧ (∀ b ∈ f.wr, h2'[b]? = h'[b]?) ∧ ∀ b, b ∉ f.wr → h2'[b]? = h2[b]? := by
    intro vs h f r h' hf; simp at hf

/-- A loop by what it comes to. -/
structure LH where
  sem : St → Option (Exit × St)
  cps : {R : Type} → St → (Exit → St → Option R) → Option R
  ok : ∀ {R : Type} (s : St) (K : Exit → St → Option R), cps s K = (sem s).bind fun p => K p.1 p.2

structure Cfg where
  ty : TypeId → Option TRow
  eqs : TypeId → Option (Bool × List TK)
  fns : FuncId → Option Hd
  inl : FuncId → Option Func
  loops : FuncId → Nat → Option LH

def evalA (ts : List AV) : Operand → AV
  | .tmp t => ts.getD t .top
  | .const v => ofConst v
  | .global _ => .top
  | .func f => .fn f [] []

section
variable (C : Cfg)

def elemRow (t : TypeId) : Option (TypeId × TRow) :=
  match C.ty t with
  | some { k := .slice e, .. } => match C.ty e with
    | some r => some (e, r)
    | none => none
  | some { k := .arr _ e, .. } => match C.ty e with
    | some r => some (e, r)
    | none => none
  | _ => none

def isAggK : TK → Bool
  | .arr _ _ => true
  | .struct _ => true
  | _ => false

def indexA (t : TypeId) (x i : AV) (h : List HObj) : Option Out :=
  match i with
  | .int _ n => match x with
    | .ptr b off => match C.ty t with
      | some { k := .arr len e, .. } => match C.ty e with
        | some r => some { g := decide (0 ≤ n) && decide (n < len), v := .ptr b (off + n.toNat * r.size), h := h }
        | none => none
      | _ => none
    | .eptr T y off => match C.ty t with
      | some { k := .arr len e, .. } => match C.ty e with
        | some r => some { g := decide (0 ≤ n) && decide (n < len), v := .eptr T y (off + n.toNat * r.size), h := h }
        | none => none
      | _ => none
    | .vptr k j off => match C.ty t with
      | some { k := .arr len e, .. } => match C.ty e with
        | some r => some { g := decide (0 ≤ n) && decide (n < len), v := .vptr k j (off + n.toNat * r.size), h := h }
        | none => none
      | _ => none
    | .lst T xs => match C.ty t with
      | some { k := .slice e, .. } => match C.ty e with
        | some r => bif Nat.beq r.size T.width then
            some { g := decide (0 ≤ n) && decide (n < (xs.length : Int)), v := .eptr T (xs.getD n.toNat T.dflt) 0, h := h }
          else none
        | none => none
      | _ => none
    | .vec k => match C.ty t with
      | some { k := .slice e, .. } => match C.ty e with
        | some r => match h[k]? with
          | some (.vec _ T xs _) => bif Nat.beq r.size T.width then
              some { g := decide (0 ≤ n) && decide (n < (xs.length : Int)), v := .vptr k n.toNat 0, h := h, rd := [k] }
            else none
          | _ => none
        | none => none
      | _ => none
    | _ => none
  | _ => none

/-- The numbers among cells, if there is nothing else. -/
def intsOf (k : IntKind) : List AV → Option (List Int)
  | [] => some []
  | .int k' n :: cs => if k' = k then match intsOf k cs with
    | some ns => some (n :: ns)
    | none => none
    else none
  | _ => none

/-- A byte of a text. -/
def byteAt (s : ByteArray) (n : Int) : Int := ((s.data.toList.getD n.toNat 0).toNat : Int)

/-- An element of an array that is a value. -/
def indexV (t : TypeId) (x i : AV) (h : List HObj) : Option Out :=
  match x, i with
  | .agg cs, .int _ n => match C.ty t with
    | some { k := .arr len e, .. } => match C.ty e with
      | some r => match r.k with
        | .int k => match intsOf k cs with
          | some ns => bif Nat.beq r.size 1 && Nat.beq ns.length len then some { g := decide (0 ≤ n) && decide (n < len), v := .int k (ns.getD n.toNat 0), h := h } else none
          | none => none
        | k => bif isAggK k then (bif Nat.beq cs.length (len * r.size) then some { g := decide (0 ≤ n) && decide (n < len), v := .agg ((cs.drop (n.toNat * r.size)).take r.size), h := h } else none)
          else (bif Nat.beq r.size 1 && Nat.beq cs.length len then some { g := decide (0 ≤ n) && decide (n < len), v := cs.getD n.toNat .top, h := h } else none)
      | none => none
    | _ => none
  | .str s, .int _ n => match C.ty t with
    | some { k := .str, .. } => some { g := decide (0 ≤ n) && decide (n < (s.size : Int)), v := .int .u8 (byteAt s n), h := h }
    | _ => none
  | _, _ => none

def fieldA (t : TypeId) (x : AV) (f : Nat) (h : List HObj) : Option Out :=
  match C.ty t with
  | some { k := .struct offs, .. } => match offs[f]? with
    | some o => match x with
      | .ptr b off => some (.pure (.ptr b (off + o.1)) h)
      | .eptr T y off => some (.pure (.eptr T y (off + o.1)) h)
      | .vptr k i off => some (.pure (.vptr k i (off + o.1)) h)
      | _ => none
    | none => none
  | _ => none

def loadA (t : TypeId) (a : AV) (h : List HObj) : Option Out :=
  match C.ty t with
  | some r => match rd h a r.size with
    | some cs => bif isAggK r.k then some { g := true, v := .agg cs, h := h, rd := rdIds a }
      else match cs with
        | [c] => some { g := true, v := c, h := h, rd := rdIds a }
        | _ => none
    | none => none
  | none => none

def storeA (t : TypeId) (a v : AV) (h : List HObj) : Option Out :=
  match C.ty t with
  | some r => bif Nat.beq (cellsOf v).length r.size && (cellsOf v).all atomA then
      match wr h a (cellsOf v) with
      | some h' => some { g := true, v := .top, h := h', wr := rdIds a ++ vecIds (cellsOf v) }
      | none => none
    else none
  | none => none

/-- Two values as cells, by their type. -/
def eqVals (ks : List TK) (agg : Bool) (x y : AV) : Option Bool :=
  match agg, x, y with
  | true, .agg a, .agg b => eqCells ks a b
  | false, x, y => eqCells ks [x] [y]
  | _, _, _ => none

def binA (op : BinOp) (t : TypeId) (x y : AV) (h : List HObj) : Option Out :=
  match op with
  | .shl => match x, y with
    | .int k a, .int _ b => some { g := decide (0 ≤ b), v := .int k (shlI k a b), h := h }
    | _, _ => none
  | .shr => match x, y with
    | .int k a, .int _ b => some { g := decide (0 ≤ b), v := .int k (shrI k a b), h := h }
    | _, _ => none
  | .eql => match x, y with
    | .int k a, .int k' b => if k = k' then some (.pure (.bool (decide (a = b))) h) else none
    | .str a, .str b => some (.pure (.bool (a.toList == b.toList)) h)
    | x, y => match C.eqs t with
      | some (ag, ks) => match eqVals ks ag x y with
        | some c => some (.pure (.bool c) h)
        | none => none
      | none => none
  | .neq => match x, y with
    | .int k a, .int k' b => if k = k' then some (.pure (.bool (!decide (a = b))) h) else none
    | .str a, .str b => some (.pure (.bool (!(a.toList == b.toList))) h)
    | x, y => match C.eqs t with
      | some (ag, ks) => match eqVals ks ag x y with
        | some c => some (.pure (.bool (!c)) h)
        | none => none
      | none => none
  | op => match x, y with
    | .int k a, .int k' b => if k = k' then
        match op with
        | .add => some (.pure (.int k (k.wrap (a + b))) h)
        | .sub => some (.pure (.int k (k.wrap (a - b))) h)
        | .mul => some (.pure (.int k (k.wrap (a * b))) h)
        | .quo => some { g := !decide (b = 0), v := .int k (k.wrap (a.tdiv b)), h := h }
        | .rem => some { g := !decide (b = 0), v := .int k (a.tmod b), h := h }
        | .and => some (.pure (.int k (bitI .and k a b)) h)
        | .or => some (.pure (.int k (bitI .or k a b)) h)
        | .xor => some (.pure (.int k (bitI .xor k a b)) h)
        | .andNot => some (.pure (.int k (bitI .andNot k a b)) h)
        | op => match cmpI op a b with
          | some c => some (.pure (.bool c) h)
          | none => none
      else none
    | _, _ => none

def buildA (t : TypeId) (parts : List (Nat × AV)) (h : List HObj) : Option Out :=
  match C.ty t with
  | some { k := .struct offs, z := z, .. } => match fillS offs (z.map ofAtom) (parts.map fun p => (p.1, cellsOf p.2)) with
    | some cs => some (.pure (.agg cs) h)
    | none => none
  | some { k := .arr _ e, z := z, .. } => match C.ty e with
    | some r => match fills r.size (z.map ofAtom) (parts.map fun p => (p.1, cellsOf p.2)) with
      | some cs => some (.pure (.agg cs) h)
      | none => none
    | none => none
  | _ => none

def buildSliceA (t : TypeId) (len : Nat) (parts : List (Nat × AV)) (h : List HObj) : Option Out :=
  match C.ty t with
  | some { k := .slice e, .. } => match C.ty e with
    | some r => match fills r.size (repl len (r.z.map ofAtom)) (parts.map fun p => (p.1, cellsOf p.2)) with
      | some cs => bif Nat.beq r.size r.dt.width && Nat.ble 1 r.size && Nat.ble (len * r.size) 16777216 then
          match unrows h r.dt len cs with
          | some xs => some { g := true, v := .vec h.length, h := lockAll (vecIds cs) h ++ [.vec e r.dt xs false], wr := vecIds cs, eff := true }
          | none => none
        else none
      | none => none
    | none => none
  | _ => none

def makeSliceA (t : TypeId) (n m : AV) (h : List HObj) : Option Out :=
  match C.ty t, n, m with
  | some { k := .slice e, .. }, .int _ a, .int _ c => match C.ty e with
    | some r => bif Nat.beq r.size r.dt.width && Nat.ble 1 r.size && Nat.ble r.bytes 16384 then
        some { g := decide (0 ≤ a) && decide (a ≤ c) && decide (c ≤ 4294967296), v := .vec h.length,
               h := h ++ [.vec e r.dt (List.replicate a.toNat r.dt.dflt) false], eff := true }
      else none
    | none => none
  | _, _, _ => none

def bnd (o : Option AV) (d : Int) : Option Int :=
  match o with
  | none => some d
  | some (.int _ n) => some n
  | _ => none

def sliceA (t : TypeId) (x : AV) (lo hi : Option AV) (h : List HObj) : Option Out :=
  match C.ty t with
  | some { k := .str, .. } => match x with
    | .str s => match bnd lo 0, bnd hi s.size with
      | some l, some u => some { g := decide (0 ≤ l) && decide (l ≤ u) && decide (u ≤ s.size), v := .str (s.extract l.toNat u.toNat), h := h }
      | _, _ => none
    | _ => none
  | some { k := .slice e, .. } => match C.ty e with
    | some r => match x with
      | .lst T xs => match bnd lo 0, bnd hi xs.length with
        | some l, some u => bif Nat.beq r.size T.width then
            some { g := decide (0 ≤ l) && decide (l ≤ u) && decide (u ≤ (xs.length : Int)), v := .lst T ((xs.take u.toNat).drop l.toNat), h := h }
          else none
        | _, _ => none
      | .vec k => match h[k]? with
        | some (.vec _ T xs _) => match bnd lo 0, bnd hi xs.length with
          | some l, some u => bif Nat.beq r.size T.width then
              some { g := decide (0 ≤ l) && decide (l ≤ u) && decide (u ≤ (xs.length : Int)), v := .lst T ((xs.take u.toNat).drop l.toNat), h := lockAt k h, wr := [k] }
            else none
          | _, _ => none
        | _ => none
      | _ => none
    | none => none
  | some { k := .arr n e, .. } => match C.ty e, lo, hi with
    | some r, none, none => match x with
      | .ptr b _ => match rd h x (n * r.size) with
        | some cs => bif Nat.beq r.size r.dt.width && Nat.beq (vecIds cs).length 0 && Nat.ble 1 (n * r.size) then
            match unrows h r.dt n cs with
            | some xs => some { g := true, v := .lst r.dt xs, h := lockAt b h, wr := [b] }
            | none => none
          else none
        | none => none
      | _ => none
    | _, _, _ => none
  | _ => none

def appendA (t : TypeId) (s x : AV) (h : List HObj) : Option Out :=
  match C.ty t with
  | some { k := .slice e, .. } => match C.ty e with
    | some r => bif Nat.beq r.size r.dt.width && Nat.ble 1 r.size && Nat.ble r.bytes 16384 then
        match elems h r.dt x with
        | some ys => match s with
          | .nils => some { g := room ys.length, v := .vec h.length, h := h ++ [.vec e r.dt ys false], rd := vecIds [x], eff := true }
          | .vec k => match h[k]? with
            | some (.vec e' T xs lk) => if hT : T = r.dt then
                bif Nat.beq e e' then
                  some { g := room (xs.length + ys.length), v := .vec h.length, h := h.set k .dead ++ [.vec e r.dt (castL hT xs ++ ys) lk], rd := k :: vecIds [x], wr := [k], eff := true }
                else none
              else none
            | _ => none
          | _ => none
        | none => none
      else none
    | none => none
  | _ => none

def lenA (t : TypeId) (x : AV) (h : List HObj) : Option Out :=
  match x with
  | .str s => match C.ty t with
    | some { k := .str, .. } => some (.pure (.int .i64 s.size) h)
    | _ => none
  | .lst _ xs => match C.ty t with
    | some { k := .slice _, .. } => some (.pure (.int .i64 xs.length) h)
    | _ => none
  | .nils => match C.ty t with
    | some { k := .slice _, .. } => some (.pure (.int .i64 0) h)
    | _ => none
  | .vec k => match C.ty t with
    | some { k := .slice _, .. } => match h[k]? with
      | some (.vec _ _ xs _) => some { g := true, v := .int .i64 xs.length, h := h, rd := [k] }
      | _ => none
    | _ => none
  | _ => match C.ty t with
    | some { k := .arr n _, .. } => some (.pure (.int .i64 n) h)
    | _ => none

def builtinA (b : Builtin) (vs : List AV) (tys : List TypeId) (h : List HObj) : Option Out :=
  match b with
  | .len => match vs, tys with
    | [x], [t] => lenA C t x h
    | _, _ => none
  | .min => match vs with
    | x :: xs => match minA x xs with
      | some v => some (.pure v h)
      | none => none
    | _ => none
  | .max => match vs with
    | x :: xs => match maxA x xs with
      | some v => some (.pure v h)
      | none => none
    | _ => none
  | .append => match vs, tys with
    | [s, x], [t, t'] => bif Nat.beq t t' then appendA C t s x h else none
    | _, _ => none
  | _ => none

def makeFuncA (fn : Fn) (first caps : List AV) (h : List HObj) : Option Out :=
  match fn with
  | .func f => some (.pure (.fn f first caps) h)
  | _ => none

def sliceMA (t : TypeId) (x : AV) (lo hi mx : Option AV) (h : List HObj) : Option Out :=
  match mx with
  | none => sliceA C t x lo hi h
  | some _ => none

def boxable : AV → Bool
  | .top => false
  | .tup _ => false
  | .opq _ => false
  | _ => true

/-- One operation that is no call of a Go function and no pick. -/
def aop (ρ : Operand → AV) (op : Op) (h : List HObj) : Option Out :=
  match op with
  | .move x => some (.pure (ρ x) h)
  | .assign x => some (.pure (ρ x) h)
  | .alloc t => match C.ty t with
    | some r => some { g := true, v := .ptr h.length 0, h := h ++ [.val (r.z.map ofAtom) false], eff := true }
    | none => none
  | .box _ x => bif boxable (ρ x) then some { g := true, v := .ptr h.length 0, h := h ++ [.val (cellsOf (ρ x)) false], eff := true } else none
  | .build t parts => bif parts.toList.all (fun p => boxable (ρ p.2)) then buildA C t (parts.toList.map fun p => (p.1, ρ p.2)) h else none
  | .buildSlice t len parts => bif parts.toList.all (fun p => boxable (ρ p.2)) then buildSliceA C t len (parts.toList.map fun p => (p.1, ρ p.2)) h else none
  | .load t a => loadA C t (ρ a) h
  | .store t a v => storeA C t (ρ a) (ρ v) h
  | .nilCheck x => match ρ x with
    | .ptr b o => some (.pure (.ptr b o) h)
    | .eptr T y o => some (.pure (.eptr T y o) h)
    | .vptr k i o => some (.pure (.vptr k i o) h)
    | .fn f a b => some (.pure (.fn f a b) h)
    | _ => none
  | .binOp op t x y _ => binA C op t (ρ x) (ρ y) h
  | .unOp op _ x => unA op (ρ x) h
  | .convert src dst x => match C.ty src, C.ty dst, ρ x with
    | some _, some { k := .int k, .. }, .int _ n => some (.pure (.int k (k.wrap n)) h)
    | _, _, _ => none
  | .makeFunc fn first caps => makeFuncA fn (first.toList.map ρ) (caps.toList.map ρ) h
  | .makeSlice t n m => makeSliceA C t (ρ n) (ρ m) h
  | .slice t x lo hi mx => sliceMA C t (ρ x) (lo.map ρ) (hi.map ρ) (mx.map ρ) h
  | .fieldAddr t x f => fieldA C t (ρ x) f h
  | .indexAddr t x i => indexA C t (ρ x) (ρ i) h
  | .index t x i => indexV C t (ρ x) (ρ i) h
  | .extract x i => match ρ x with
    | .tup vs => match vs[i]? with
      | some v => some (.pure v h)
      | none => none
    | _ => none
  | .call { callee := .builtin b, args, argTypes } => builtinA C b (args.toList.map ρ) argTypes.toList h
  | _ => none

/-- An operation of a region that draws its order: a new variable takes the slot that was kept for it. -/
def aopS (sl : Option Nat) (ρ : Operand → AV) (op : Op) (h : List HObj) : Option Out :=
  match sl, op with
  | some b, .alloc t => match C.ty t with
    | some r => match h[b]? with
      | some .free => some { g := true, v := .ptr b 0, h := h.set b (.val (r.z.map ofAtom) false), wr := [b] }
      | _ => none
    | none => none
  | _, op => aop C ρ op h

def isAlloc (o : Oper) : Bool :=
  match o.op with
  | .alloc _ => true
  | _ => false

def slotOf (base : Option Nat) (all : List Oper) (i : Nat) : Option Nat :=
  match base with
  | some b => some (b + ((all.take i).filter isAlloc).length)
  | none => none

def St.put (s : St) (d : Option Tmp) (v : AV) : St :=
  match d with
  | some t => { s with tmps := s.tmps.set t v }
  | none => s

/-- A bool in a slot, now known. -/
def St.know (s : St) (x : Operand) (b : Bool) : St :=
  match x with
  | .tmp t => { s with tmps := s.tmps.set t (.bool b) }
  | _ => s

variable {R : Type}

/-- The results of a function. -/
def resA (h : List HObj) (ts : List AV) : List ResultVar → Option (List AV)
  | [] => some []
  | .tmp t :: r => match resA h ts r with
    | some vs => some (ts.getD t .top :: vs)
    | none => none
  | .cell a t :: r => match loadA C t (ts.getD a .top) h with
    | some o => match resA h ts r with
      | some vs => some (o.v :: vs)
      | none => none
    | none => none

def resV (vs : List AV) : AV :=
  match vs with
  | [v] => v
  | vs => .tup vs

def fnOf (v : AV) (args : List AV) : Option (FuncId × List AV) :=
  match v with
  | .fn f first caps => some (f, first ++ args ++ caps)
  | _ => none

def quietCall (H : Hd) (vs : List AV) : Bool := H.quiet && noVec vs

def allFoot (h h' : List HObj) : Foot := { wr := List.range (max h.length h'.length), eff := true }

def callFoot (H : Hd) (vs : List AV) (h h' : List HObj) : Foot :=
  bif quietCall H vs then {} else match H.ft vs h with
    | some f => f
    | none => allFoot h h'

def outFoot (out : Out) (h : List HObj) : Foot :=
  { rd := out.rd, wr := out.wr ++ (bif out.eff then List.range' h.length (out.h.length - h.length) else []), eff := out.eff }

def Oper.want (all : List Oper) (ts : List AV) (o : Oper) : Option Bool :=
  match o.guard with
  | none => some true
  | some (j, want) => match all[j]? with
    | some oj => match oj.dst with
      | some t => match ts.getD t .top with
        | .bool v => some (v == want)
        | .opq (.bool _) => none
        | .opq _ => some false
        | _ => none
      | none => none
    | none => none

abbrev Inl := FuncId → List AV → List HObj → Option (AV × List HObj)

/-- What an operation has come to. -/
def outF (o : Oper) (s : St) (out : Option Out) : Option (St × Foot) :=
  match out with
  | some out => bif out.g then some ({ s with heap := out.h : St }.put o.dst out.v, outFoot out s.heap) else none
  | none => none

/-- One operation, carried out. -/
def execF (inl : Inl) (sl : Option Nat) (o : Oper) (s : St) : Option (St × Foot) :=
  match o.op with
  | .pick c a b => match evalA s.tmps c with
    | .bool v => some (s.put o.dst (bif v then evalA s.tmps a else evalA s.tmps b), {})
    | _ => none
  | .call { callee := .value f, args, .. } => match fnOf (evalA s.tmps f) (args.toList.map (evalA s.tmps)) with
    | some (f, vs) => match C.fns f with
      | some H => match H.sem vs s.heap with
        | some (v, h) => some ({ s with heap := h : St }.put o.dst v, callFoot H vs s.heap h)
        | none => none
      | none => match inl f vs s.heap with
        | some (v, h) => some ({ s with heap := h : St }.put o.dst v, allFoot s.heap h)
        | none => none
    | none => none
  | op => outF o s (aopS C sl (evalA s.tmps) op s.heap)

def stepF (inl : Inl) (base : Option Nat) (all : List Oper) (i : Nat) (s : St) : Option (St × Foot) :=
  match all[i]? with
  | none => some (s, {})
  | some o => match Oper.want all s.tmps o with
    | some true => execF C inl (slotOf base all i) o s
    | some false => some (s.put o.dst (.opq undef), {})
    | none => none

def opsF (inl : Inl) (base : Option Nat) (all : List Oper) : List Nat → St → Option (St × List (Nat × Foot))
  | [], s => some (s, [])
  | i :: l, s => match stepF C inl base all i s with
    | some (s', f) => match opsF inl base all l s' with
      | some (s'', fs) => some (s'', (i, f) :: fs)
      | none => none
    | none => none

/-- The predecessors of the operations, as bits. -/
def befL : List Oper → List Nat → List Nat
  | [], acc => acc
  | o :: l, acc => befL l (acc ++ [o.after.toList.foldl (fun s e => bif Region.binds .any e then s ||| 2 ^ e.on ||| acc.getD e.on 0 else s) 0])

def ordd (bs : List Nat) (i j : Nat) : Bool := (bs.getD j 0).testBit i

def meets (xs ys : List Nat) : Bool := xs.any fun x => ys.any fun y => Nat.beq x y

def clash (f g : Foot) : Bool := (f.eff && g.eff) || meets f.rd g.wr || meets f.wr g.rd || meets f.wr g.wr

/-- What was done in the order of the text may be done in any order that the edges let. -/
def feetOk (bs : List Nat) : List (Nat × Foot) → Bool
  | [] => true
  | (i, f) :: l => (l.all fun p => ordd bs i p.1 || !clash f p.2) && feetOk bs l

/-- .. as to the slots, and the edges point backwards. -/
def statOk (all : List Oper) (bs : List Nat) : Bool :=
  (all.zipIdx.all fun (o, j) => o.after.toList.all fun e => !Region.binds .any e || Nat.ble (e.on + 1) j) &&
  all.zipIdx.all fun (oj, j) => all.zipIdx.all fun (oi, i) => !Nat.ble (i + 1) j || ordd bs i j || oi.apart all.toArray oj

/-- The state with slots kept for new variables. -/
def St.kept (s : St) (draw : Bool) (ops : List Oper) : St := bif draw then { s with heap := s.heap ++ List.replicate (ops.filter isAlloc).length .free } else s

def baseOf (draw : Bool) (s : St) : Option Nat := bif draw then some s.heap.length else none

def regF (inl : Inl) (ops : List Oper) (draw : Bool) (s : St) : Option St :=
  match opsF C inl (baseOf draw s) ops (List.range ops.length) (s.kept draw ops) with
  | some (s', fs) => bif !draw || (statOk ops (befL ops []) && feetOk (befL ops []) fs) then some s' else none
  | none => none

/-- Code, carried out. -/
def runS : Nat → FuncId → Code → St → Option (Exit × St)
  | 0, _, _, _ => none
  | n + 1, cur, c, s => match c with
    | .skip => some (.normal, s)
    | .ret => some (.ret, s)
    | .exit id => some (.exit id, s)
    | .seq a b => match runS n cur a s with
      | some (.normal, s') => runS n cur b s'
      | r => r
    | .cond c a b => match evalA s.tmps c with
      | .bool v => bif v then runS n cur a s else runS n cur b s
      | _ => none
    | .block id body => match C.loops cur id with
      | some L => L.sem s
      | none => match runS n cur body s with
        | some (.exit id', s') => bif Nat.beq id' id then some (.normal, s') else some (.exit id', s')
        | r => r
    | .loop body => match runS n cur body s with
      | some (.normal, s') => runS n cur (.loop body) s'
      | r => r
    | .region _ ops draw => match regF C (fun f vs h => match C.inl f with
        | some fn => match fn.body with
          | some body => match runS n f body { tmps := vs ++ List.replicate (fn.ntmps - vs.length) .top, heap := h } with
            | some (e, s') => match e with
              | .normal | .ret => match resA C s'.heap s'.tmps fn.results.toList with
                | some vs => some (resV vs, s'.heap)
                | none => none
              | _ => none
            | none => none
          | none => none
        | none => none) ops.toList draw s with
      | some s' => some (.normal, s')
      | none => none
    | _ => none

/- THE SAME IN CONTINUATION STYLE: what the kernel carries out. -/

abbrev InlK (R : Type) := FuncId → List AV → List HObj → (AV → List HObj → Option R) → Option R

/-- The length of an array that an address leads to. -/
def arrLen (t : TypeId) (x : AV) : Option Nat :=
  match x with
  | .ptr _ _ => match C.ty t with
    | some { k := .arr len _, .. } => some len
    | _ => none
  | .eptr _ _ _ => match C.ty t with
    | some { k := .arr len _, .. } => some len
    | _ => none
  | .vptr _ _ _ => match C.ty t with
    | some { k := .arr len _, .. } => some len
    | _ => none
  | _ => none

/-- The length of an array of aggregates that is a value. -/
def aggLen (t : TypeId) (x : AV) : Option Nat :=
  match x with
  | .agg _ => match C.ty t with
    | some { k := .arr len e, .. } => match C.ty e with
      | some r => match r.k with
        | .int _ => none
        | _ => some len
      | none => none
    | _ => none
  | _ => none

def outK (o : Oper) (s : St) (out : Option Out) (K : St → Foot → Option R) : Option R :=
  match out with
  | some out => bif out.g then K ({ s with heap := out.h : St }.put o.dst out.v) (outFoot out s.heap) else none
  | none => none

/-- An index, one by one. -/
def selI (n : Int) : Nat → Nat → (Int → Option R) → Option R
  | _, 0, _ => none
  | j, l + 1, F => bif decide (n = (j : Int)) then F (j : Int) else selI n (j + 1) l F

def execK (inl : InlK R) (sl : Option Nat) (o : Oper) (s : St) (K : St → Foot → Option R) : Option R :=
  match o.op with
  | .pick c a b => match evalA s.tmps c with
    | .bool v => bif v then K ((s.know c true).put o.dst (evalA s.tmps a)) {} else K ((s.know c false).put o.dst (evalA s.tmps b)) {}
    | _ => none
  | .call { callee := .value f, args, .. } => match fnOf (evalA s.tmps f) (args.toList.map (evalA s.tmps)) with
    | some (f, vs) => match C.fns f with
      | some H => H.cps vs s.heap fun v h => K ({ s with heap := h : St }.put o.dst v) (callFoot H vs s.heap h)
      | none => inl f vs s.heap fun v h => K ({ s with heap := h : St }.put o.dst v) (allFoot s.heap h)
    | none => none
  | .indexAddr t x i => match arrLen C t (evalA s.tmps x), evalA s.tmps i with
    | some len, .int k n => selI n 0 len fun m => outK o s (indexA C t (evalA s.tmps x) (.int k m) s.heap) K
    | _, _ => outK o s (indexA C t (evalA s.tmps x) (evalA s.tmps i) s.heap) K
  | .index t x i => match aggLen C t (evalA s.tmps x), evalA s.tmps i with
    | some len, .int k n => selI n 0 len fun m => outK o s (indexV C t (evalA s.tmps x) (.int k m) s.heap) K
    | _, _ => outK o s (indexV C t (evalA s.tmps x) (evalA s.tmps i) s.heap) K
  | op => outK o s (aopS C sl (evalA s.tmps) op s.heap) K

def stepK (inl : InlK R) (base : Option Nat) (all : List Oper) (i : Nat) (s : St) (K : St → Foot → Option R) : Option R :=
  match all[i]? with
  | none => K s {}
  | some o => match o.guard with
    | none => execK C inl (slotOf base all i) o s K
    | some (j, want) => match all[j]? with
      | some oj => match oj.dst with
        | some t => match s.tmps.getD t .top with
          | .bool v => bif v then
              (bif want then execK C inl (slotOf base all i) o (s.know (.tmp t) true) K else K ((s.know (.tmp t) true).put o.dst (.opq undef)) {})
            else
              (bif want then K ((s.know (.tmp t) false).put o.dst (.opq undef)) {} else execK C inl (slotOf base all i) o (s.know (.tmp t) false) K)
          | .opq (.bool _) => none
          | .opq _ => K (s.put o.dst (.opq undef)) {}
          | _ => none
        | none => none
      | none => none

def opsK (inl : InlK R) (base : Option Nat) (all : List Oper) : List Nat → St → List (Nat × Foot) → (St → List (Nat × Foot) → Option R) → Option R
  | [], s, fs, K => K s fs
  | i :: l, s, fs, K => stepK C inl base all i s fun s' f => opsK inl base all l s' (fs ++ [(i, f)]) K

def regK (inl : InlK R) (ops : List Oper) (draw : Bool) (s : St) (K : St → Option R) : Option R :=
  opsK C inl (baseOf draw s) ops (List.range ops.length) (s.kept draw ops) [] fun s' fs => bif !draw || (statOk ops (befL ops []) && feetOk (befL ops []) fs) then K s' else none

def run : Nat → FuncId → Code → St → (Exit → St → Option R) → Option R
  | 0, _, _, _, _ => none
  | n + 1, cur, c, s, K => match c with
    | .skip => K .normal s
    | .ret => K .ret s
    | .exit id => K (.exit id) s
    | .seq a b => run n cur a s fun e s' => match e with
      | .normal => run n cur b s' K
      | e => K e s'
    | .cond c a b => match evalA s.tmps c with
      | .bool v => bif v then run n cur a (s.know c true) K else run n cur b (s.know c false) K
      | _ => none
    | .block id body => match C.loops cur id with
      | some L => L.cps s K
      | none => run n cur body s fun e s' => match e with
        | .exit id' => bif Nat.beq id' id then K .normal s' else K (.exit id') s'
        | e => K e s'
    | .loop body => run n cur body s fun e s' => match e with
      | .normal => run n cur (.loop body) s' K
      | e => K e s'
    | .region _ ops draw => regK C (fun f vs h K0 => match C.inl f with
        | some fn => match fn.body with
          | some body => run n f body { tmps := vs ++ List.replicate (fn.ntmps - vs.length) .top, heap := h } fun e s' => match e with
            | .normal | .ret => match resA C s'.heap s'.tmps fn.results.toList with
              | some vs => K0 (resV vs) s'.heap
              | none => none
            | _ => none
          | none => none
        | none => none) ops.toList draw s fun s' => K .normal s'
    | _ => none

/-- A function, called with these arguments over this heap. -/
def runF (n : Nat) (f : FuncId) (fn : Func) (vs : List AV) (h : List HObj) (K : AV → List HObj → Option R) : Option R :=
  match fn.body with
  | some body => run C n f body { tmps := vs ++ List.replicate (fn.ntmps - vs.length) .top, heap := h } fun e s => match e with
    | .normal | .ret => match resA C s.heap s.tmps fn.results.toList with
      | some vs => K (resV vs) s.heap
      | none => none
    | _ => none
  | none => none

end
end Go.RX
