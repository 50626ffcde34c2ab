/-
  The machine without memory: values, code, states, and its first steps. Conditions: none (definitions and lemmas).
-/
import Derived.Calls
import Derived.Laws.Sem
/-
  A machine without memory (part 1): values, states, operations and their effect. Conditions: none (definitions).
-/
namespace Go.Ab

/-! ### Data: values without memory. A struct or an array is the list of its cells; a slice is the list of its elements. -/
inductive D where
  | bool (b : Bool)
  | int (k : IntKind) (n : Int)
  | str (s : List UInt8)
  | nilp
  | nilf
  | nilm
  | fnc (f : Nat)
  | agg (cs : List D)
  | lst (xs : List D)
  | tup (xs : List D)
  | fmap (ks vs : List D)
  deriving Inhabited

def D.cells : D → List D
  | .agg cs => cs
  | x => [x]
def D.isAgg : D → Bool
  | .agg _ => true
  | _ => false

/-! ### Values: data; a slice that may grow (acc); what leads into the heap. -/
inductive AV where
  | d (x : D)
  | acc (sz : Nat) (xs : List D)
  | full (sz : Nat) (xs : List D)
  | ptr (tg i off : Nat)
  | fn (f : Nat) (caps : List AV)
  | arr (tg i off len : Nat)
  | agg (cs : List AV)
  | tup (xs : List AV)
  | mapr (tg i : Nat)
  deriving Inhabited

def allD : List AV → Option (List D)
  | [] => some []
  | .d x :: r => match allD r with
    | some ds => some (x :: ds)
    | none => none
  | _ :: _ => none
def mkAgg (cs : List AV) : AV :=
  match allD cs with
  | some ds => .d (.agg ds)
  | none => .agg cs
def AV.cells : AV → List AV
  | .d (.agg ds) => ds.map .d
  | .agg cs => cs
  | x => [x]
def AV.isAgg : AV → Bool
  | .d (.agg _) => true
  | .agg _ => true
  | _ => false

/-- a value of one cell. -/
def AV.one : AV → Bool
  | .d (.agg _) => false
  | .d (.tup _) => false
  | .agg _ => false
  | .tup _ => false
  | _ => true
/-- a value that a variable may hold. -/
def AV.fine : AV → Bool
  | .d (.tup _) => false
  | .tup _ => false
  | _ => true
def D.fine : D → Bool
  | .tup _ => false
  | _ => true

/-- what may be copied of a value: a slice that may grow is copied as data. -/
def weaken : AV → AV
  | .acc _ xs => .d (.lst xs)
  | .full _ xs => .d (.lst xs)
  | .agg cs => mkAgg (weakens cs)
  | .tup cs => .tup (weakens cs)
  | x => x
  where
  weakens : List AV → List AV
    | [] => []
    | x :: r => weaken x :: weakens r

/-- a value as data. -/
def freeze : AV → Option D
  | .d x => some x
  | .acc _ xs => some (.lst xs)
  | .full _ xs => some (.lst xs)
  | .agg cs => (freezes cs).map .agg
  | .tup cs => (freezes cs).map .tup
  | _ => none
  where
  freezes : List AV → Option (List D)
    | [] => some []
    | x :: r => match freeze x, freezes r with
      | some d, some ds => some (d :: ds)
      | _, _ => none

/-- the part of a value: n cells from off on, or one cell. -/
def AV.read (c : AV) (off n : Nat) (agg : Bool) : Option AV :=
  if agg then
    if off = 0 ∧ n = c.cells.length ∧ c.isAgg = true then some c
    else if off + n ≤ c.cells.length then some (mkAgg ((c.cells.drop off).take n)) else none
  else c.cells[off]?
/-- a value with another part. -/
def AV.write (c : AV) (v : AV) (off : Nat) : Option AV :=
  if c.isAgg then
    if off = 0 ∧ v.isAgg = true ∧ v.cells.length = c.cells.length then some v
    else if off + v.cells.length ≤ c.cells.length then some (mkAgg (c.cells.take off ++ v.cells ++ c.cells.drop (off + v.cells.length))) else none
  else if off = 0 ∧ v.isAgg = false then some v else none

/-! ### Slots, environments, heaps -/
inductive Slot where
  | v (a : AV)
  | var (st : Nat) (a : AV)
  | vp (s st off : Nat)
  | ep (x : D) (off : Nat)
  | gp (g off : Nat)
  | siter (s : List UInt8) (pos : Nat)
  | undef
  deriving Inhabited

abbrev Env := List (Nat × Slot)
def Env.get : Env → Nat → Option Slot
  | [], _ => none
  | (k, s) :: r, t => if k = t then some s else Env.get r t
def Env.set : Env → Nat → Slot → Env
  | [], t, x => [(t, x)]
  | (k, s) :: r, t, x => if t < k then (t, x) :: (k, s) :: r else if k = t then (t, x) :: r else (k, s) :: Env.set r t x
/-- at a region's end: what is kept; pointers into registers are not. -/
def Env.keep : List Nat → Env → Env
  | [], _ => []
  | k :: ks, e => match Env.get e k with
    | some (.var _ a) => (k, .var 0 a) :: Env.keep ks e
    | some (.vp _ _ _) => Env.keep ks e
    | some s => (k, s) :: Env.keep ks e
    | none => Env.keep ks e

inductive HObj where
  | cells (cs : List AV)
  | map (ks : List D) (vs : List AV)
  deriving Inhabited
/-- four lists of objects: what lies in one is never in another. -/
structure Heap where
  a : List HObj := []
  b : List HObj := []
  c : List HObj := []
  d : List HObj := []
  deriving Inhabited
def Heap.at (h : Heap) : Nat → List HObj
  | 0 => h.a
  | 1 => h.b
  | 2 => h.c
  | 3 => h.d
  | _ => []
def Heap.with (h : Heap) (tg : Nat) (l : List HObj) : Heap :=
  match tg with
  | 0 => { h with a := l }
  | 1 => { h with b := l }
  | 2 => { h with c := l }
  | 3 => { h with d := l }
  | _ => h
def Heap.get (h : Heap) (tg i : Nat) : Option HObj := (h.at tg)[i]?
def Heap.set (h : Heap) (tg i : Nat) (o : HObj) : Heap := h.with tg ((h.at tg).set i o)
def Heap.push (h : Heap) (tg : Nat) (o : HObj) : Heap := h.with tg (h.at tg ++ [o])
def Heap.next (h : Heap) (tg : Nat) : Nat := (h.at tg).length

/-! ### Operands and operations -/
inductive Opd where
  | t (n : Nat)
  | k (a : AV)
  | f (n : Nat)
  | g (n : Nat)
  deriving Inhabited
/-- where an address leads: into a register, into the heap, into data or a global. -/
inductive Loc where
  | reg (s : Nat)
  | heap (tg : Nat)
  | imm
  deriving Inhabited, DecidableEq
inductive Cv where
  | int (k : IntKind)
  | runeStr
  | strBytes
  | bytesStr
  | bytesBytes
  deriving Inhabited
/-- what is compared: a bool, a number, a text; one such, or a struct of such. -/
inductive Sc where
  | b
  | i
  | s
  deriving Inhabited, DecidableEq
inductive Sh where
  | one (t : Sc)
  | many (ts : List Sc)
  deriving Inhabited, DecidableEq
/-- how a function is called: with data alone; likewise, and what comes back may grow; in the heap's sight, to be read alone; to be written. -/
inductive Md where
  | pure
  | own
  | ro
  | imp
  deriving Inhabited, DecidableEq
inductive DOp where
  | mov (x : Opd) (take : Bool)
  | pick (c a b : Opd)
  | boxR (st : Nat) (x : Opd)
  | boxH (tg : Nat) (x : Opd)
  | build (zero : AV) (parts : List (Nat × Nat × Opd))
  | bslice (sz : Nat) (zero : D) (len : Nat) (parts : List (Nat × Opd))
  | bsliceH (tg : Nat) (len : Nat) (parts : List (Nat × Opd))
  | load (loc : Loc) (x : Opd) (n : Nat) (agg take : Bool)
  | store (loc : Loc) (x v : Opd) (n : Nat) (take : Bool)
  | faddr (x : Opd) (off : Nat)
  | idxA (x i : Opd) (len sz : Nat)
  | idxS (x i : Opd) (sz : Nat)
  | index (x i : Opd) (len sz : Nat) (agg : Bool)
  | sindex (x i : Opd)
  | field (x : Opd) (off n : Nat) (agg : Bool)
  | len (str : Bool) (x : Opd)
  | bin (op : BinOp) (x y : Opd)
  | eqAgg (neg : Bool) (sh : Sh) (x y : Opd)
  | nilEq (neg fn : Bool) (x y : Opd)
  | un (op : UnOp) (x : Opd)
  | conv (c : Cv) (x : Opd)
  | slice (str : Bool) (x : Opd) (sz : Nat) (lo hi mx : Option Opd)
  | sliceA (x : Opd) (len sz : Nat) (lo hi : Option Opd)
  | append (base x : Opd) (sz bytes : Nat)
  | call (f : Nat) (args : List Opd) (m : Md)
  | callv (x : Opd) (args : List Opd) (m : Md)
  | extract (x : Opd) (i : Nat) (take : Bool)
  | mkfn (f : Nat) (caps : List Opd)
  | mkmap (tg : Nat)
  | insert (tg : Nat) (sh : Sh) (m k v : Opd)
  | mapEntry (tg : Nat) (sh : Sh) (m k : Opd) (zero : AV)
  | entryStore (tg : Nat) (m s v : Opd)
  | lookup (tg : Nat) (sh : Sh) (m k : Opd) (ok : Bool) (zero : AV) (take : Bool)
  | mkslice (tg : Nat) (l c : Opd) (zero : D) (sz bytes : Nat)
  | nilchk (x : Opd)
  | copy (tg : Nat) (dst src : Opd)
  | mnmx (mx : Bool) (xs : List Opd)
  | srange (x : Opd)
  | snext (x : Nat)
  deriving Inhabited
structure DOper where
  dst : Option Nat
  guard : Option (Option Nat × Bool)
  op : DOp
  deriving Inhabited
inductive DCode where
  | skip
  | region (draw : Bool) (ops : List DOper) (keep : List Nat)
  | seq (a b : DCode)
  | cond (c : Opd) (thn els : DCode)
  | block (id : Nat) (body : DCode)
  | loop (body : DCode)
  | exit (id : Nat)
  | ret
  deriving Inhabited
inductive Res where
  | tmp (t : Nat)
  | cell (t : Nat) (n : Nat) (agg : Bool)
  deriving Inhabited
structure DFun where
  nparams : Nat
  ntmps : Nat
  results : List Res
  body : DCode
  deriving Inhabited
end Go.Ab

/-
  A machine without memory (part 2): what an operation does, what code does. Conditions: none (definitions).
-/
namespace Go.Ab

structure Ctx where
  pure : Nat → List D → Option D
  own : Nat → List D → Option AV
  imp : Nat → List AV → Heap → Option (AV × Heap)
  ro : Nat → List AV → Heap → Option AV
  glob : Nat → Option D

def evS (e : Env) : Opd → Option Slot
  | .t n => e.get n
  | .k a => some (.v a)
  | .f n => some (.v (.d (.fnc n)))
  | .g n => some (.gp n 0)
/-- an operand's value, copied. -/
def evw (e : Env) (x : Opd) : Option AV :=
  match evS e x with
  | some (.v a) => some (weaken a)
  | _ => none
/-- an operand's value, as data. -/
def evD (e : Env) (x : Opd) : Option D :=
  match evS e x with
  | some (.v a) => freeze a
  | _ => none
def evI (e : Env) (x : Opd) : Option Int :=
  match evS e x with
  | some (.v (.d (.int _ n))) => some n
  | _ => none
def evB (e : Env) (x : Opd) : Option Bool :=
  match evS e x with
  | some (.v (.d (.bool b))) => some b
  | _ => none
/-- an operand's value, taken: what stays is a copy. -/
def evt (e : Env) (x : Opd) : Option (AV × Env) :=
  match x with
  | .t n => match e.get n with
    | some (.v a) => some (a, e.set n (.v (weaken a)))
    | _ => none
  | x => match evS e x with
    | some (.v a) => some (a, e)
    | _ => none
def evts : Env → List Opd → Option (List AV × Env)
  | e, [] => some ([], e)
  | e, x :: r => match evt e x with
    | some (a, e') => match evts e' r with
      | some (as, e'') => some (a :: as, e'')
      | none => none
    | none => none
def evDs (e : Env) : List Opd → Option (List D)
  | [] => some []
  | x :: r => match evD e x with
    | some d => match evDs e r with
      | some ds => some (d :: ds)
      | none => none
    | none => none
def evws (e : Env) : List Opd → Option (List AV)
  | [] => some []
  | x :: r => match evw e x with
    | some d => match evws e r with
      | some ds => some (d :: ds)
      | none => none
    | none => none

/-! ### Arithmetic on data -/
def intBin (op : BinOp) (k : IntKind) (x y : Int) : Option D :=
  match op with
  | .add => some (.int k (k.wrap (x + y)))
  | .sub => some (.int k (k.wrap (x - y)))
  | .mul => some (.int k (k.wrap (x * y)))
  | .quo => if y = 0 then none else some (.int k (k.wrap (x.tdiv y)))
  | .rem => if y = 0 then none else some (.int k (x.tmod y))
  | .and => some (.int k (k.wrap ((BitVec.ofInt k.bits x &&& BitVec.ofInt k.bits y).toNat : Int)))
  | .or => some (.int k (k.wrap ((BitVec.ofInt k.bits x ||| BitVec.ofInt k.bits y).toNat : Int)))
  | .xor => some (.int k (k.wrap ((BitVec.ofInt k.bits x ^^^ BitVec.ofInt k.bits y).toNat : Int)))
  | .andNot => some (.int k (k.wrap ((BitVec.ofInt k.bits x &&& ~~~BitVec.ofInt k.bits y).toNat : Int)))
  | .eql => some (.bool (x == y))
  | .neq => some (.bool (x != y))
  | .lss => some (.bool (decide (x < y)))
  | .leq => some (.bool (decide (x ≤ y)))
  | .gtr => some (.bool (decide (x > y)))
  | .geq => some (.bool (decide (x ≥ y)))
  | _ => none
def shiftBin (op : BinOp) (k : IntKind) (x y : Int) : Option D :=
  if y < 0 then none else
  match op with
  | .shl => some (.int k (k.wrap (x * 2 ^ (min y.toNat k.bits))))
  | .shr => some (.int k (x.fdiv (2 ^ (min y.toNat k.bits))))
  | _ => none
def strBin (op : BinOp) (x y : List UInt8) : Option D :=
  match op with
  | .add => if ((x.length + y.length : Nat) : Int) > IntKind.i64.max then none else some (.str (x ++ y))
  | .eql => some (.bool (x == y))
  | .neq => some (.bool !(x == y))
  | .lss => some (.bool (Op.bytesLess x y))
  | .leq => some (.bool (Op.bytesLess x y || x == y))
  | .gtr => some (.bool !(Op.bytesLess x y || x == y))
  | .geq => some (.bool !(Op.bytesLess x y))
  | _ => none
def isShift : BinOp → Bool
  | .shl => true
  | .shr => true
  | _ => false
def binD (op : BinOp) : D → D → Option D
  | .int k x, .int k' y => if isShift op then shiftBin op k x y else if k = k' then intBin op k x y else none
  | .str x, .str y => strBin op x y
  | _, _ => none
/-- is it nil? -/
def isNil (fn : Bool) : AV → AV → Option Bool
  | .d .nilp, .d .nilp => if fn then none else some true
  | .ptr _ _ _, .d .nilp => if fn then none else some false
  | .d .nilf, .d .nilf => if fn then some true else none
  | .d (.fnc _), .d .nilf => if fn then some false else none
  | .fn _ _, .d .nilf => if fn then some false else none
  | _, _ => none

/-- are data alike? -/
def scEq : Sc → D → D → Option Bool
  | .b, .bool a, .bool b => some (a == b)
  | .i, .int k a, .int k' b => if k = k' then some (a == b) else none
  | .s, .str a, .str b => some (a == b)
  | _, _, _ => none
def scEqs : List Sc → List D → List D → Option Bool
  | [], [], [] => some true
  | t :: ts, a :: as, b :: bs => match scEq t a b, scEqs ts as bs with
    | some x, some y => some (x && y)
    | _, _ => none
  | _, _, _ => none
def shEq : Sh → D → D → Option Bool
  | .one t, a, b => scEq t a b
  | .many ts, .agg as, .agg bs => scEqs ts as bs
  | _, _, _ => none

def unD (op : UnOp) : D → Option D
  | .bool b => match op with
    | .not => some (.bool !b)
    | _ => none
  | .int k n => match op with
    | .neg => some (.int k (k.wrap (0 - n)))
    | .xor => intBin .xor k (if k.signed then -1 else k.max) n
    | _ => none
  | _ => none
def bytesD (s : List UInt8) : List D := s.map fun b => .int .u8 (b.toNat : Int)
def numsByte : List D → Option (List UInt8)
  | [] => some []
  | .int .u8 n :: r => match numsByte r with
    | some s => some (UInt8.ofNat n.toNat :: s)
    | none => none
  | _ :: _ => none
def runeBytes (n : Int) : List UInt8 := (Utf8.encode n).data.toList
def conv (c : Cv) (a : AV) : Option AV :=
  match c, a with
  | .int k, .d (.int _ n) => some (.d (.int k (k.wrap n)))
  | .runeStr, .d (.int _ n) => some (.d (.str (runeBytes n)))
  | .strBytes, .d (.str s) => some (.d (.lst (bytesD s)))
  | .bytesStr, .d (.lst xs) => (numsByte xs).map fun s => .d (.str s)
  | .bytesBytes, .acc 1 (x :: xs) => some (.acc 1 (x :: xs))
  | _, _ => none
/-- the elements of a slice. -/
def elems : AV → Option (List D)
  | .d (.lst xs) => some xs
  | .acc _ xs => some xs
  | .full _ xs => some xs
  | _ => none
def lenA (str : Bool) : AV → Option Nat
  | .d (.str s) => if str then some s.length else none
  | .d (.lst xs) => if str then none else some xs.length
  | .acc _ xs => if str then none else some xs.length
  | .full _ xs => if str then none else some xs.length
  | .arr _ _ _ n => if str then none else some n
  | _ => none
/-- have the elements so many cells? (All have as many as the first one.) -/
def headOk (sz : Nat) : List D → Bool
  | [] => true
  | x :: _ => x.cells.length == sz
def szOk (sz : Nat) (xs : List D) : Bool := xs.all fun x => x.cells.length == sz
/-- what is appended. -/
def appendix (sz : Nat) : AV → Option (List D)
  | .d (.lst ys) => if headOk sz ys then some ys else none
  | .acc s ys => if s = sz then some ys else if headOk sz ys then some ys else none
  | .full s ys => if s = sz then some ys else if headOk sz ys then some ys else none
  | .d (.str s) => if sz = 1 then some (bytesD s) else none
  | _ => none
def cut {α : Type} (lo hi : Nat) (xs : List α) : List α := (xs.take hi).drop lo
/-- bounds of a slice expression. -/
def bounds (lo hi : Option Int) (n : Nat) : Option (Nat × Nat) :=
  if 0 ≤ lo.getD 0 ∧ lo.getD 0 ≤ hi.getD n ∧ hi.getD n ≤ n then some ((lo.getD 0).toNat, (hi.getD n).toNat) else none
def evO (e : Env) : Option Opd → Option (Option Int)
  | none => some none
  | some x => match evI e x with
    | some n => some (some n)
    | none => none

def findKey (sh : Sh) (k : D) : List D → Nat → Option (Option Nat)
  | [], _ => some none
  | x :: r, i => match shEq sh k x with
    | some true => some (some i)
    | some false => findKey sh k r (i + 1)
    | none => none

/-- may a key be of this shape? -/
def shFit : Sh → D → Bool
  | .one _, k => k.fine
  | .many l, .agg ds => ds.length == l.length
  | _, _ => false
def findK (sh : Sh) (k : D) (ks : List D) : Option (Option Nat) := if shFit sh k then findKey sh k ks 0 else none

def faddr (e : Env) (x : Opd) (off : Nat) : Option Slot :=
  match evS e x with
  | some (.var st _) => match x with
    | .t n => some (.vp n st off)
    | _ => none
  | some (.vp s st o) => some (.vp s st (o + off))
  | some (.ep x o) => some (.ep x (o + off))
  | some (.gp g o) => some (.gp g (o + off))
  | some (.v (.ptr tg i o)) => some (.v (.ptr tg i (o + off)))
  | _ => none
/-- a register's place, of an address into it: its mark, what it holds, the offset. -/
def regAt (e : Env) (s : Nat) (x : Opd) : Option (Nat × AV × Nat) :=
  match evS e x with
  | some (.var st c) => match x with
    | .t n => if n = s then some (st, c, 0) else none
    | _ => none
  | some (.vp s' st off) => if s' = s then match e.get s with
    | some (.var st' c) => if st' = st then some (st, c, off) else none
    | _ => none else none
  | _ => none
def readC (cs : List AV) (off n : Nat) (agg : Bool) : Option AV :=
  if agg then if off + n ≤ cs.length then some (mkAgg ((cs.drop off).take n)) else none else cs[off]?
def writeC (cs vs : List AV) (off : Nat) : Option (List AV) :=
  if off + vs.length ≤ cs.length then some (cs.take off ++ vs ++ cs.drop (off + vs.length)) else none

def loadOp (C : Ctx) (loc : Loc) (x : Opd) (n : Nat) (agg take : Bool) (e : Env) (h : Heap) : Option (Slot × Env × Heap) :=
  match loc with
  | .reg s => match regAt e s x with
    | some (st, c, off) => match c.read off n agg with
      | some a => if take then (match c.write (weaken a) off with
          | some c' => some (.v a, e.set s (.var st c'), h)
          | none => none) else some (.v (weaken a), e, h)
      | none => none
    | none => none
  | .imm => match evS e x with
    | some (.ep y off) => match (AV.d y).read off n agg with
      | some a => some (.v a, e, h)
      | none => none
    | some (.gp g off) => match C.glob g with
      | some y => match (AV.d y).read off n agg with
        | some a => some (.v a, e, h)
        | none => none
      | none => none
    | _ => none
  | .heap tg' => match evS e x with
    | some (.v (.ptr tg i off)) => if tg = tg' then match h.get tg i with
      | some (.cells cs) => match readC cs off n agg with
        | some a => if take then (match writeC cs (weaken a).cells off with
            | some cs' => some (.v a, e, h.set tg i (.cells cs'))
            | none => none) else some (.v (weaken a), e, h)
        | none => none
      | _ => none else none
    | _ => none

def storeOp (loc : Loc) (x v : Opd) (n : Nat) (take : Bool) (e : Env) (h : Heap) : Option (Slot × Env × Heap) :=
  match (if take then evt e v else (evw e v).map fun a => (a, e)) with
  | some (a, e) => if a.fine = true ∧ a.cells.length = n then match loc with
    | .reg s => match regAt e s x with
      | some (st, c, off) => match c.write a off with
        | some c' => some (.undef, e.set s (.var st c'), h)
        | none => none
      | none => none
    | .heap tg' => match evS e x with
      | some (.v (.ptr tg i off)) => if tg = tg' then match h.get tg i with
        | some (.cells cs) => match writeC cs a.cells off with
          | some cs' => some (.undef, e, h.set tg i (.cells cs'))
          | none => none
        | _ => none else none
      | _ => none
    | .imm => none else none
  | none => none

def buildGo (e : Env) : AV → List (Nat × Nat × Opd) → Option AV
  | c, [] => some c
  | c, (off, n, x) :: r => match evw e x with
    | some a => if a.fine = true ∧ a.cells.length = n then match c.write a off with
      | some c' => buildGo e c' r
      | none => none else none
    | none => none
def bsliceGo (e : Env) (sz : Nat) : List D → List (Nat × Opd) → Option (List D)
  | xs, [] => some xs
  | xs, (i, x) :: r => match evD e x with
    | some a => if a.fine = true ∧ a.cells.length = sz ∧ i < xs.length then bsliceGo e sz (xs.set i a) r else none
    | none => none
def mnmx (mx : Bool) (x y : Int) : Int := if mx then (if x < y then y else x) else (if y < x then y else x)
def mnmxGo (mx : Bool) (e : Env) : Int → List Opd → Option Int
  | m, [] => some m
  | m, x :: r => match evI e x with
    | some n => mnmxGo mx e (mnmx mx m n) r
    | none => none

def vD (x : D) : Slot := .v (.d x)
/-- a value as data, where the heap is left behind. -/
def freezeH (h : Heap) : AV → Option D
  | .arr tg i off len => match h.get tg i with
    | some (.cells cs) => if off + len ≤ cs.length then match allD ((cs.drop off).take len) with
        | some ds => if szOk 1 ds then some (.lst ds) else none
        | none => none else none
    | _ => none
  | .mapr tg i => match h.get tg i with
    | some (.map ks vs) => match freeze.freezes vs with
      | some ds => if ds.all D.fine = true then some (.fmap ks ds) else none
      | none => none
    | _ => none
  | .tup as => match go as with
    | some ds => some (.tup ds)
    | none => none
  | a => freeze a
  where
  go : List AV → Option (List D)
    | [] => some []
    | a :: r => match freezeH h a, go r with
      | some d, some ds => some (d :: ds)
      | _, _ => none

def opRun (C : Ctx) (op : DOp) (e : Env) (h : Heap) : Option (Slot × Env × Heap) :=
  match op with
  | .mov x take => match evS e x with
    | some (.v a) => if take then (match evt e x with
        | some (a, e') => some (.v a, e', h)
        | none => none) else some (.v (weaken a), e, h)
    | some (.vp s st o) => some (.vp s st o, e, h)
    | some (.ep x o) => some (.ep x o, e, h)
    | some (.gp g o) => some (.gp g o, e, h)
    | _ => none
  | .pick c a b => match evB e c with
    | some t => match evw e (if t then a else b) with
      | some r => some (.v r, e, h)
      | none => none
    | none => none
  | .boxR st x => match evt e x with
    | some (a, e') => if a.fine then some (.var st a, e', h) else none
    | none => none
  | .boxH tg x => match evt e x with
    | some (a, e') => if a.fine = true ∧ tg < 4 then some (.v (.ptr tg (h.next tg) 0), e', h.push tg (.cells a.cells)) else none
    | none => none
  | .build zero parts => match buildGo e zero parts with
    | some a => some (.v a, e, h)
    | none => none
  | .bslice sz zero len parts => match bsliceGo e sz (List.replicate len zero) parts with
    | some xs => some (.v (.acc sz xs), e, h)
    | none => none
  | .bsliceH tg len parts => match evws e (parts.map (·.2)) with
    | some as => if parts.map (·.1) = List.range len ∧ as.all AV.one = true ∧ tg < 4 then some (.v (.arr tg (h.next tg) 0 len), e, h.push tg (.cells as)) else none
    | none => none
  | .load loc x n agg take => loadOp C loc x n agg take e h
  | .store loc x v n take => storeOp loc x v n take e h
  | .faddr x off => match faddr e x off with
    | some s => some (s, e, h)
    | none => none
  | .idxA x i len sz => match evI e i with
    | some n => if 0 ≤ n ∧ n < len then match faddr e x (n.toNat * sz) with
        | some s => some (s, e, h)
        | none => none else none
    | none => none
  | .idxS x i sz => match evI e i with
    | some n => if 0 ≤ n then match evS e x with
        | some (.v (.arr tg j off len)) => if n < len then some (.v (.ptr tg j (off + n.toNat * sz)), e, h) else none
        | some (.v a) => match elems a with
          | some xs => match xs[n.toNat]? with
            | some y => if y.cells.length = sz then some (.ep y 0, e, h) else none
            | none => none
          | none => none
        | _ => none else none
    | none => none
  | .index x i len sz agg => match evI e i, evw e x with
    | some n, some a => if a.isAgg = true ∧ 0 ≤ n ∧ n < len then match a.read (n.toNat * sz) sz agg with
        | some r => some (.v r, e, h)
        | none => none else none
    | _, _ => none
  | .sindex x i => match evI e i, evS e x with
    | some n, some (.v (.d (.str s))) => if 0 ≤ n then match s[n.toNat]? with
        | some b => some (vD (.int .u8 (b.toNat : Int)), e, h)
        | none => none else none
    | _, _ => none
  | .field x off n agg => match evw e x with
    | some a => if a.isAgg = true then match a.read off n agg with
      | some r => some (.v r, e, h)
      | none => none else none
    | none => none
  | .len str x => match evS e x with
    | some (.v a) => match lenA str a with
      | some n => some (vD (.int .i64 (n : Int)), e, h)
      | none => none
    | _ => none
  | .bin op x y => match evD e x, evD e y with
    | some a, some b => match binD op a b with
      | some r => some (vD r, e, h)
      | none => none
    | _, _ => none
  | .nilEq neg fn x y => match evw e x, evw e y with
    | some a, some b => match isNil fn a b with
      | some r => some (vD (.bool (if neg then !r else r)), e, h)
      | none => none
    | _, _ => none
  | .eqAgg neg sh x y => match evD e x, evD e y with
    | some a, some b => match shEq sh a b with
      | some r => some (vD (.bool (if neg then !r else r)), e, h)
      | none => none
    | _, _ => none
  | .un op x => match evD e x with
    | some a => match unD op a with
      | some r => some (vD r, e, h)
      | none => none
    | none => none
  | .conv c x => match c with
    | .bytesBytes => match evt e x with
      | some (a, e') => match conv c a with
        | some r => some (.v r, e', h)
        | none => none
      | none => none
    | c => match evw e x with
      | some a => match conv c a with
        | some r => some (.v r, e, h)
        | none => none
      | none => none
  | .slice true x _ lo hi mx => match evO e lo, evO e hi, mx, evS e x with
    | some l, some hh, none, some (.v (.d (.str s))) => match bounds l hh s.length with
      | some (a, b) => some (vD (.str (cut a b s)), e, h)
      | none => none
    | _, _, _, _ => none
  | .slice false x sz lo hi none => match evO e lo, evO e hi, evS e x with
    | some l, some hh, some (.v (.arr tg i off n)) => match bounds l hh n with
      | some (a, b) => some (.v (.arr tg i (off + a * sz) (b - a)), e, h)
      | none => none
    | some l, some hh, some (.v a) => match elems a with
      | some xs => if headOk sz xs = true then match bounds l hh xs.length with
        | some (a, b) => some (vD (.lst (cut a b xs)), e, h)
        | none => none else none
      | none => none
    | _, _, _ => none
  | .slice false _ _ _ none (some _) => none
  | .slice false x sz lo (some hi) (some mx) => match evO e lo, evO e (some hi), evI e mx, evS e x with
    | some l, some hh, some m, some (.v a) => match elems a with
      | some xs => if headOk sz xs = true then match bounds l hh xs.length with
        | some (a, b) => if m = (b : Int) then some (.v (.full sz (cut a b xs)), e, h) else none
        | none => none else none
      | none => none
    | _, _, _, _ => none
  | .sliceA x len sz lo hi => match evO e lo, evO e hi, evS e x with
    | some l, some hh, some (.v (.ptr tg i off)) => match bounds l hh len with
      | some (a, b) => some (.v (.arr tg i (off + a * sz) (b - a)), e, h)
      | none => none
    | _, _, _ => none
  | .append base x sz bytes => match evt e base with
    | some (.acc s xs, e') => if s = sz ∨ s = 0 then match evS e x with
        | some (.v a) => match appendix sz a with
          | some ys => if (xs.length + ys.length) * bytes ≤ 70368744177664 then some (.v (.acc sz (xs ++ ys)), e', h) else none
          | none => none
        | _ => none else none
    | some (.full s xs, e') => if s = sz ∨ xs = [] then match evS e x with
        | some (.v a) => match appendix sz a with
          | some (y :: ys) => if (xs.length + (y :: ys).length) * bytes ≤ 70368744177664 then some (.v (.acc sz (xs ++ y :: ys)), e', h) else none
          | _ => none
        | _ => none else none
    | _ => none
  | .call f args m => match m with
    | .pure => match evDs e args with
      | some ds => match C.pure f ds with
        | some r => some (vD r, e, h)
        | none => none
      | none => none
    | .own => match evDs e args with
      | some ds => match C.own f ds with
        | some r => some (.v r, e, h)
        | none => none
      | none => none
    | .ro => match evws e args with
      | some as => match C.ro f as h with
        | some r => some (.v r, e, h)
        | none => none
      | none => none
    | .imp => match evts e args with
      | some (as, e') => match C.imp f as h with
        | some (r, h') => some (.v r, e', h')
        | none => none
      | none => none
  | .callv x args m => match evS e x with
    | some (.v (.d (.fnc f))) => match m with
      | .pure => match evDs e args with
        | some ds => match C.pure f ds with
          | some r => some (vD r, e, h)
          | none => none
        | none => none
      | .own => none
      | .ro => match evws e args with
        | some as => match C.ro f as h with
          | some r => some (.v r, e, h)
          | none => none
        | none => none
      | .imp => match evts e args with
        | some (as, e') => match C.imp f as h with
          | some (r, h') => some (.v r, e', h')
          | none => none
        | none => none
    | some (.v (.fn f caps)) => match m with
      | .pure => none
      | .own => none
      | .ro => match evws e args with
        | some as => match C.ro f (as ++ caps) h with
          | some r => some (.v r, e, h)
          | none => none
        | none => none
      | .imp => match evts e args with
        | some (as, e') => match C.imp f (as ++ caps) h with
          | some (r, h') => some (.v r, e', h')
          | none => none
        | none => none
    | _ => none
  | .extract x i take => match (if take then evt e x else (evw e x).map fun a => (a, e)) with
    | some (.tup as, e') => match as[i]? with
      | some a => some (.v a, e', h)
      | none => none
    | some (.d (.tup ds), e') => match ds[i]? with
      | some a => some (vD a, e', h)
      | none => none
    | _ => none
  | .mkfn f caps => match evws e caps with
    | some as => match as with
      | [] => some (vD (.fnc f), e, h)
      | as => some (.v (.fn f as), e, h)
    | none => none
  | .mkmap tg => if tg < 4 then some (.v (.mapr tg (h.next tg)), e, h.push tg (.map [] [])) else none
  | .insert tg' sh m k v => match evS e m, evD e k, evt e v with
    | some (.v (.mapr tg i)), some k, some (a, e') => if tg = tg' then match h.get tg i with
      | some (.map ks vs) => match findK sh k ks with
        | some (some j) => some (.undef, e', h.set tg i (.map ks (vs.set j a)))
        | some none => some (.undef, e', h.set tg i (.map (ks ++ [k]) (vs ++ [a])))
        | none => none
      | _ => none else none
    | _, _, _ => none
  | .mapEntry tg' sh m k zero => match evS e m, evD e k with
    | some (.v (.mapr tg i)), some k => if tg = tg' then match h.get tg i with
      | some (.map ks vs) => match findK sh k ks with
        | some (some j) => match vs[j]? with
          | some a => some (.v (.tup [a, .d (.int .i64 (j : Int))]), e, h.set tg i (.map ks (vs.set j (weaken a))))
          | none => none
        | some none => some (.v (.tup [zero, .d (.int .i64 (ks.length : Int))]), e, h.set tg i (.map (ks ++ [k]) (vs ++ [weaken zero])))
        | none => none
      | _ => none else none
    | _, _ => none
  | .entryStore tg' m s v => match evS e m, evI e s, evt e v with
    | some (.v (.mapr tg i)), some n, some (a, e') => if tg = tg' then match h.get tg i with
      | some (.map ks vs) => if 0 ≤ n ∧ n.toNat < vs.length then some (.undef, e', h.set tg i (.map ks (vs.set n.toNat a))) else none
      | _ => none else none
    | _, _, _ => none
  | .lookup tg' sh m k ok zero take => match evS e m, evD e k with
    | some (.v (.mapr tg i)), some k => if tg = tg' then match h.get tg i with
      | some (.map ks vs) => match findK sh k ks with
        | some (some j) => match vs[j]? with
          | some a =>
            let r := if take then a else weaken a
            some (.v (if ok then .tup [r, .d (.bool true)] else r), e, if take then h.set tg i (.map ks (vs.set j (weaken a))) else h)
          | none => none
        | some none => some (.v (if ok then .tup [zero, .d (.bool false)] else zero), e, h)
        | none => none
      | _ => none else none
    | some (.v (.d (.fmap ks vs))), some k => match findK sh k ks with
      | some (some j) => match vs[j]? with
        | some a => some (.v (if ok then .d (.tup [a, .bool true]) else .d a), e, h)
        | none => none
      | some none => some (.v (if ok then .tup [zero, .d (.bool false)] else zero), e, h)
      | none => none
    | _, _ => none
  | .mkslice tg l c zero sz bytes => match evI e l, evI e c with
    | some n, some m => if tg < 4 ∧ n = m ∧ 0 ≤ n ∧ n.toNat * bytes ≤ 70368744177664 then
        some (.v (.arr tg (h.next tg) 0 n.toNat), e, h.push tg (.cells ((List.replicate n.toNat (zero.cells.map AV.d)).flatten))) else none
    | _, _ => none
  | .nilchk x => match evS e x with
    | some (.v (.ptr tg i o)) => some (.v (.ptr tg i o), e, h)
    | _ => none
  | .copy tg' dst src => match evS e dst, evS e src with
    | some (.v (.arr tg i off len)), some (.v a) => if tg = tg' then match h.get tg i with
      | some (.cells cs) => match a with
        | .arr tg2 j off2 len2 => if tg2 = tg' then match h.get tg2 j with
          | some (.cells cs2) =>
            let n := Nat.min len2 len
            if off2 + n ≤ cs2.length then match writeC cs ((cs2.drop off2).take n) off with
              | some cs' => some (vD (.int .i64 (n : Int)), e, h.set tg i (.cells cs'))
              | none => none else none
          | _ => none else none
        | a => match elems a with
          | some ys =>
            let n := Nat.min ys.length len
            if szOk 1 (ys.take n) then match writeC cs ((ys.take n).map AV.d) off with
              | some cs' => some (vD (.int .i64 (n : Int)), e, h.set tg i (.cells cs'))
              | none => none else none
          | none => none
      | _ => none else none
    | _, _ => none
  | .mnmx mx xs => match xs with
    | [] => none
    | x :: r => match evS e x with
      | some (.v (.d (.int k n))) => match mnmxGo mx e n r with
        | some m => some (vD (.int k m), e, h)
        | none => none
      | _ => none
  | .srange x => match evS e x with
    | some (.v (.d (.str s))) => some (.siter s 0, e, h)
    | _ => none
  | .snext n => match e.get n with
    | some (.siter s pos) => if pos < s.length then
        let (c, wd) := Utf8.decode ⟨s.toArray⟩ pos
        some (vD (.tup [.bool true, .int .i64 (pos : Int), .int .i32 (c : Int)]), e.set n (.siter s (pos + wd)), h)
      else some (vD (.tup [.bool false]), e, h)
    | _ => none

/-! ### Code -/
inductive XE where
  | nrm
  | exit (id : Nat)
  | ret
  deriving Inhabited

def wanted (e : Env) (g : Option (Option Nat × Bool)) : Option Bool :=
  match g with
  | none => some true
  | some (none, _) => some false
  | some (some t, want) => match e.get t with
    | some (.v (.d (.bool b))) => some (b == want)
    | some .undef => some false
    | _ => none
def put (dst : Option Nat) (s : Slot) (e : Env) : Env :=
  match dst with
  | some d => e.set d s
  | none => e
def stepOp (C : Ctx) (o : DOper) (e : Env) (h : Heap) : Option (Env × Heap) :=
  match wanted e o.guard with
  | some true => match opRun C o.op e h with
    | some (s, e', h') => some (put o.dst s e', h')
    | none => none
  | some false => some (put o.dst .undef e, h)
  | none => none
def opsRun (C : Ctx) : List DOper → Env → Heap → Option (Env × Heap)
  | [], e, h => some (e, h)
  | o :: r, e, h => match stepOp C o e h with
    | some (e', h') => opsRun C r e' h'
    | none => none

abbrev XR := Option (XE × Env × Heap)
def iter (f : Env → Heap → XR) : Nat → Env → Heap → XR
  | 0, _, _ => none
  | n + 1, e, h => match f e h with
    | some (.nrm, e', h') => iter f n e' h'
    | r => r
def exec (C : Ctx) (n : Nat) : DCode → Env → Heap → XR
  | .skip, e, h => some (.nrm, e, h)
  | .region _ ops ks, e, h => match opsRun C ops e h with
    | some (e', h') => some (.nrm, Env.keep ks e', h')
    | none => none
  | .seq a b, e, h => match exec C n a e h with
    | some (.nrm, e', h') => exec C n b e' h'
    | r => r
  | .cond c a b, e, h => match evB e c with
    | some true => exec C n a e h
    | some false => exec C n b e h
    | none => none
  | .block id b, e, h => match exec C n b e h with
    | some (.exit i, e', h') => if i = id then some (.nrm, e', h') else some (.exit i, e', h')
    | r => r
  | .loop b, e, h => iter (exec C n b) n e h
  | .exit id, e, h => some (.exit id, e, h)
  | .ret, e, h => some (.ret, e, h)

def initEnv : Nat → List AV → Env
  | _, [] => []
  | i, a :: r => (i, .v a) :: initEnv (i + 1) r
def resOne (e : Env) (h : Heap) : Res → Option AV
  | .tmp t => match e.get t with
    | some (.v a) => some a
    | _ => none
  | .cell t n agg => match e.get t with
    | some (.var _ c) => c.read 0 n agg
    | some (.v (.ptr tg i off)) => match h.get tg i with
      | some (.cells cs) => (readC cs off n agg).map weaken
      | _ => none
    | _ => none
def resAll (e : Env) (h : Heap) : List Res → Option (List AV)
  | [] => some []
  | r :: rs => match resOne e h r, resAll e h rs with
    | some a, some as => some (a :: as)
    | _, _ => none
def pack : List AV → AV
  | [a] => a
  | as => match allD as with
    | some ds => .d (.tup ds)
    | none => .tup as
def runFun (C : Ctx) (n : Nat) (fd : DFun) (args : List AV) (h : Heap) : Option (AV × Heap) :=
  if args.length = fd.nparams then match exec C n fd.body (initEnv 0 args) h with
    | some (.exit _, _, _) => none
    | some (_, e, h') => match resAll e h' fd.results with
      | some as => some (pack as, h')
      | none => none
    | none => none else none

/-- does a value stand without the heap? -/
def heapless : AV → Bool
  | .d _ => true
  | .acc _ _ => true
  | .full _ _ => true
  | .agg cs => all cs
  | .tup cs => all cs
  | _ => false
  where
  all : List AV → Bool
    | [] => true
    | a :: r => heapless a && all r
mutual
def D.beq : D → D → Bool
  | .bool a, .bool b => a == b
  | .int k a, .int l b => decide (k = l) && decide (a = b)
  | .str a, .str b => decide (a = b)
  | .nilp, .nilp => true
  | .nilf, .nilf => true
  | .nilm, .nilm => true
  | .fnc a, .fnc b => decide (a = b)
  | .agg a, .agg b => Ds.beq a b
  | .lst a, .lst b => Ds.beq a b
  | .tup a, .tup b => Ds.beq a b
  | .fmap a c, .fmap b d => Ds.beq a b && Ds.beq c d
  | _, _ => false
def Ds.beq : List D → List D → Bool
  | [], [] => true
  | a :: as, b :: bs => D.beq a b && Ds.beq as bs
  | _, _ => false
end
mutual
def AV.beq : AV → AV → Bool
  | .d a, .d b => D.beq a b
  | .acc s a, .acc t b => decide (s = t) && Ds.beq a b
  | .full s a, .full t b => decide (s = t) && Ds.beq a b
  | .ptr a b c, .ptr x y z => decide (a = x) && decide (b = y) && decide (c = z)
  | .fn f a, .fn g b => decide (f = g) && AVs.beq a b
  | .arr a b c d, .arr x y z u => decide (a = x) && decide (b = y) && decide (c = z) && decide (d = u)
  | .agg a, .agg b => AVs.beq a b
  | .tup a, .tup b => AVs.beq a b
  | .mapr a b, .mapr x y => decide (a = x) && decide (b = y)
  | _, _ => false
def AVs.beq : List AV → List AV → Bool
  | [], [] => true
  | a :: as, b :: bs => AV.beq a b && AVs.beq as bs
  | _, _ => false
end
def HObj.beq : HObj → HObj → Bool
  | .cells a, .cells b => AVs.beq a b
  | .map a c, .map b d => Ds.beq a b && AVs.beq c d
  | _, _ => false
def HObjs.beq : List HObj → List HObj → Bool
  | [], [] => true
  | a :: as, b :: bs => HObj.beq a b && HObjs.beq as bs
  | _, _ => false
/-- is the heap as it was? -/
def sameHeap (h k : Heap) : Bool := HObjs.beq h.a k.a && HObjs.beq h.b k.b && HObjs.beq h.c k.c && HObjs.beq h.d k.d
/-- a whole program: its functions, its variables, and what is told of functions by other means. -/
structure Sys where
  prog : Nat → Option DFun
  glob : Nat → Option D
  orc : Nat → List D → Option D
def ctxOf (S : Sys) (imp : Nat → List AV → Heap → Option (AV × Heap)) : Ctx where
  pure := fun f ds => match S.orc f ds with
    | some d => some d
    | none => match imp f (ds.map AV.d) {} with
      | some (a, h) => freezeH h a
      | none => none
  own := fun f ds => match imp f (ds.map AV.d) {} with
    | some (a, _) => if heapless a then some a else none
    | none => none
  imp := imp
  ro := fun f as h => match imp f as h with
    | some (a, h') => if sameHeap h h' then some a else none
    | none => none
  glob := S.glob
/-- by fuel. -/
def impN (S : Sys) : Nat → Nat → List AV → Heap → Option (AV × Heap)
  | 0, _, _, _ => none
  | n + 1, f, as, h => match S.prog f with
    | some fd => runFun (ctxOf S (impN S n)) n fd as h
    | none => none
end Go.Ab

/-
  A machine without memory (part 3): a Go function's code, digested. Conditions: none (definitions).
-/
namespace Go.Ab

/-- what is told ahead of a function: which boxes are registers, where addresses lead, what is taken, what is kept behind a region, which functions are called in the heap's sight. -/
structure Ann where
  reg : List Nat := []
  loc : List (Nat × Loc) := []
  single : List Nat := []
  pairs : List (Nat × Nat) := []
  ltake : List Nat := []
  keep : List (Nat × List Nat) := []
  imp : List Nat := []
  pv : List Nat := []
  ro : List Nat := []
  tags : List (Nat × Nat) := []
  own : List Nat := []
  gc : List (Nat × List Nat) := []
  deriving Inhabited

def Ann.locOf (A : Ann) (t : Nat) : Loc := match A.loc.find? (fun p => p.1 == t) with
  | some p => p.2
  | none => if A.reg.contains t then .reg t else .heap 0
def Ann.isReg (A : Ann) (t : Option Nat) : Bool := match t with
  | some d => A.reg.contains d
  | none => false
/-- into which list of the heap it is laid. -/
def Ann.tagOf (A : Ann) (t : Nat) : Nat := match A.tags.find? (fun p => p.1 == t) with
  | some p => p.2
  | none => 0
def Ann.tagO (A : Ann) (t : Option Nat) : Nat := match t with
  | some t => A.tagOf t
  | none => 0
def Ann.tagX (A : Ann) : Operand → Nat
  | .tmp t => A.tagOf t
  | _ => 0
def Ann.gcOf (A : Ann) (id : Nat) : List Nat := match A.gc.find? (fun p => p.1 == id) with
  | some p => p.2
  | none => []
def Ann.keepOf (A : Ann) (id : Nat) : List Nat := match A.keep.find? (fun p => p.1 == id) with
  | some p => p.2
  | none => []
def Ann.takes (A : Ann) (dst : Option Nat) : Operand → Bool
  | .const _ => true
  | .tmp t => A.single.contains t || (match dst with
    | some d => A.pairs.contains (d, t)
    | none => false)
  | _ => false

def cellAV : Value → Option AV
  | .bool b => some (.d (.bool b))
  | .int k n => some (.d (.int k n))
  | .string s => some (.d (.str s.data.toList))
  | .pointer none => some (.d .nilp)
  | .nilFunc => some (.d .nilf)
  | .slice none 0 0 => some (.acc 0 [])
  | .map none => some (.d .nilm)
  | _ => none
def cellsAV : List Value → Option (List AV)
  | [] => some []
  | v :: r => match cellAV v, cellsAV r with
    | some a, some as => some (a :: as)
    | _, _ => none
def constAV : Value → Option AV
  | .agg cs => (cellsAV cs.toList).map mkAgg
  | v => cellAV v
def zeroD (a : AV) : Option D := freeze a

section
variable (P : Program) (fid : FuncId → Option Nat) (A : Ann)

def opd : Operand → Option Opd
  | .tmp t => some (.t t)
  | .const v => (constAV v).map .k
  | .func f => (fid f).map .f
  | .global g => some (.g g)
def opds : List Operand → Option (List Opd)
  | [] => some []
  | x :: r => match opd fid x, opds r with
    | some a, some as => some (a :: as)
    | _, _ => none
def opdO : Option Operand → Option (Option Opd)
  | none => some none
  | some x => (opd fid x).map some
def isAggT (t : TypeId) : Option Bool := match P.underlying t with
  | some (.struct _) => some true
  | some (.array _ _) => some true
  | some _ => some false
  | none => none
def sizeT (t : TypeId) : Option Nat := (P.info? t).map (·.size)
def bytesT (t : TypeId) : Option Nat := (P.info? t).map (·.bytes)
def zeroT (t : TypeId) : Option AV := match P.info? t with
  | some i => match i.zero with
    | some z => constAV z
    | none => none
  | none => none
def shGo (sh : TypeId → Option (List Sc)) : Nat → List Field → Option (List Sc)
  | _, [] => some []
  | off, f :: fs => if f.name != "_" && f.offset == off then match sh f.type with
      | some l => if sizeT P f.type = some l.length then match shGo sh (off + l.length) fs with
        | some r => some (l ++ r)
        | none => none else none
      | none => none else none
/-- what the values of a type are compared by: its cells, one by one. -/
def shT : Nat → TypeId → Option (List Sc)
  | 0, _ => none
  | d + 1, t => match P.underlying t with
    | some .bool => some [.b]
    | some (.int _) => some [.i]
    | some .string => some [.s]
    | some (.struct fs) => if P.stoodInHeld t || P.cutTypes.any (·.2 == t) then none else shGo P (shT d) 0 fs.toList
    | _ => none
def shOf (t : TypeId) : Option Sh := match shT P 12 t, isAggT P t with
  | some [c], some false => some (.one c)
  | some l, some true => if sizeT P t = some l.length ∧ P.eqGuardType P.depth t = false then some (.many l) else none
  | _, _ => none
def bparts (fs : Array Field) : List (Nat × Operand) → Option (List (Nat × Nat × Opd))
  | [] => some []
  | (i, x) :: r => match fs[i]?, opd fid x, bparts fs r with
    | some f, some a, some as => match sizeT P f.type with
      | some n => some ((f.offset, n, a) :: as)
      | none => none
    | _, _, _ => none
def aparts (n : Nat) : List (Nat × Operand) → Option (List (Nat × Nat × Opd))
  | [] => some []
  | (i, x) :: r => match opd fid x, aparts n r with
    | some a, some as => some ((i * n, n, a) :: as)
    | _, _ => none
def sparts : List (Nat × Operand) → Option (List (Nat × Opd))
  | [] => some []
  | (i, x) :: r => match opd fid x, sparts r with
    | some a, some as => some ((i, a) :: as)
    | _, _ => none

def digBin (op : BinOp) (t : TypeId) (x y : Opd) : Option DOp :=
  match P.underlying t with
  | some (.int _) => some (.bin op x y)
  | some .string => some (.bin op x y)
  | some (.pointer _) => digEq op (.nilEq · false x y)
  | some (.func _ _ _) => digEq op (.nilEq · true x y)
  | _ => match shOf P t with
    | some (.one .b) => digEq op (.eqAgg · (.one .b) x y)
    | some (.many l) => digEq op (.eqAgg · (.many l) x y)
    | _ => none
  where
  digEq (op : BinOp) (f : Bool → DOp) : Option DOp :=
    match op with
    | .eql => some (f false)
    | .neq => some (f true)
    | _ => none
def digConv (s t : TypeId) (x : Opd) : Option DOp :=
  match P.underlying s, P.underlying t with
  | some (.int _), some (.int k) => some (.conv (.int k) x)
  | some (.int _), some .string => some (.conv .runeStr x)
  | some .string, some (.slice e) => match P.underlying e with
    | some (.int .u8) => some (.conv .strBytes x)
    | _ => none
  | some (.slice e), some .string => match P.underlying e with
    | some (.int .u8) => some (.conv .bytesStr x)
    | _ => none
  | some (.slice e), some (.slice _) => match P.underlying e with
    | some (.int .u8) => if s = t then some (.conv .bytesBytes x) else none
    | _ => none
  | _, _ => none
def digBuiltin (tg : Nat) (b : Builtin) (args : List Operand) (ts : List TypeId) : Option DOp :=
  match b, args, ts with
  | .append, [s, x], [t, u] => match P.underlying t, opd fid s, opd fid x, P.underlying u with
    | some (.slice _), some _, some _, some (.int _) => none
    | some (.slice e), some s, some x, some _ => match sizeT P e, bytesT P e, zeroT P e with
      | some n, some b, some z => if 0 < n ∧ 0 < b ∧ z.cells.length = n then some (.append s x n b) else none
      | _, _, _ => none
    | _, _, _, _ => none
  | .len, [x], [t] => match P.underlying t, opd fid x with
    | some (.slice _), some x => some (.len false x)
    | some .string, some x => some (.len true x)
    | some (.array n _), some _ => some (.mov (.k (.d (.int .i64 (n : Int)))) true)
    | _, _ => none
  | .min, xs, _ => (opds fid xs).map (.mnmx false)
  | .max, xs, _ => (opds fid xs).map (.mnmx true)
  | _, _, _ => none

def digOp (i : Nat) (o : Oper) : Option DOp :=
  match o.op with
  | .move x => (opd fid x).map (.mov · (A.takes o.dst x))
  | .assign x => (opd fid x).map (.mov · (A.takes o.dst x))
  | .pick c a b => match opd fid c, opd fid a, opd fid b with
    | some c, some a, some b => some (.pick c a b)
    | _, _, _ => none
  | .alloc t => match zeroT P t with
    | some z => if A.isReg o.dst then some (.boxR (i + 1) (.k z)) else some (.boxH (A.tagO o.dst) (.k z))
    | none => none
  | .box _ x => match opd fid x with
    | some x => if A.isReg o.dst then some (.boxR (i + 1) x) else some (.boxH (A.tagO o.dst) x)
    | none => none
  | .build t parts => match P.underlying t, zeroT P t with
    | some (.struct fs), some z => if z.isAgg = true ∧ fs.toList.all (fun f => (sizeT P f.type).isSome) = true then (bparts P fid fs parts.toList).map (.build z) else none
    | some (.array _ e), some z => match sizeT P e with
      | some n => if z.isAgg = true then (aparts fid n parts.toList).map (.build z) else none
      | none => none
    | _, _ => none
  | .buildSlice t len parts => match P.underlying t with
    | some (.slice e) => match P.underlying e, sizeT P e, zeroT P e, sparts fid parts.toList with
      | some (.func _ _ _), _, _, _ => none
      | some _, some n, some z, some ps => match zeroD z with
        | some z => if len * n ≤ 16777216 ∧ 0 < n ∧ z.cells.length = n ∧ z.fine = true then some (.bslice n z len ps) else none
        | none => none
      | _, _, _, _ => none
    | _ => none
  | .load t a => match sizeT P t, isAggT P t, opd fid a with
    | some n, some g, some x => some (.load (match a with | .tmp t => A.locOf t | _ => .imm) x n g (match o.dst with | some d => A.ltake.contains d | none => false))
    | _, _, _ => none
  | .store t a v => match sizeT P t, opd fid a, opd fid v with
    | some n, some x, some y => some (.store (match a with | .tmp t => A.locOf t | _ => .imm) x y n (A.takes none v))
    | _, _, _ => none
  | .nilCheck x => (opd fid x).map .nilchk
  | .binOp op t x y _ => match opd fid x, opd fid y with
    | some x, some y => digBin P op t x y
    | _, _ => none
  | .unOp op _ x => (opd fid x).map (.un op)
  | .convert s t x => match opd fid x with
    | some x => digConv P s t x
    | none => none
  | .makeFunc (.func f) first caps => if first.isEmpty then match fid f, opds fid caps.toList with
    | some f, some cs => some (.mkfn f cs)
    | _, _ => none else none
  | .makeMap _ none => some (.mkmap (A.tagO o.dst))
  | .slice t x lo hi mx => match opd fid x, opdO fid lo, opdO fid hi, opdO fid mx with
    | some x, some lo, some hi, some mx => match P.underlying t with
      | some .string => some (.slice true x 1 lo hi mx)
      | some (.slice e) => match sizeT P e with
        | some n => if 0 < n then some (.slice false x n lo hi mx) else none
        | none => none
      | some (.array len e) => match sizeT P e, mx with
        | some n, none => if 0 < n then some (.sliceA x len n lo hi) else none
        | _, _ => none
      | _ => none
    | _, _, _, _ => none
  | .fieldAddr s x f => match P.underlying s, opd fid x with
    | some (.struct fs), some x => match fs[f]? with
      | some fl => match sizeT P fl.type with
        | some n => if 0 < n then some (.faddr x fl.offset) else none
        | none => none
      | none => none
    | _, _ => none
  | .field s x f => match P.underlying s, opd fid x with
    | some (.struct fs), some x => match fs[f]? with
      | some fl => match sizeT P fl.type, isAggT P fl.type with
        | some n, some g => some (.field x fl.offset n g)
        | _, _ => none
      | none => none
    | _, _ => none
  | .indexAddr t x ix => match opd fid x, opd fid ix with
    | some x, some ix => match P.underlying t with
      | some (.array len e) => match sizeT P e with
        | some n => if 0 < n then some (.idxA x ix len n) else none
        | none => none
      | some (.slice e) => match sizeT P e with
        | some n => if 0 < n then some (.idxS x ix n) else none
        | none => none
      | _ => none
    | _, _ => none
  | .index t x ix => match opd fid x, opd fid ix with
    | some x, some ix => match P.underlying t with
      | some (.array len e) => match sizeT P e, isAggT P e with
        | some n, some g => if 0 < n then some (.index x ix len n g) else none
        | _, _ => none
      | some .string => some (.sindex x ix)
      | _ => none
    | _, _ => none
  | .lookup t x k ok => match P.underlying t, opd fid x, opd fid k with
    | some (.map kt et), some x, some k => match zeroT P et with
      | some z => match shOf P kt with
        | some sh => some (.lookup (A.tagO o.dst) sh x k ok z (match o.dst with | some d => A.ltake.contains d | none => false))
        | none => none
      | none => none
    | _, _, _ => none
  | .mapUpdate t m0 k v => match P.underlying t, opd fid m0, opd fid k, opd fid v with
    | some (.map kt _), some m, some k, some v => (shOf P kt).map (.insert (A.tagX m0) · m k v)
    | _, _, _, _ => none
  | .insert t m0 k v => match P.underlying t, opd fid m0, opd fid k, opd fid v with
    | some (.map kt _), some m, some k, some v => (shOf P kt).map (.insert (A.tagX m0) · m k v)
    | _, _, _, _ => none
  | .mapEntry t m k => match P.underlying t, opd fid m, opd fid k with
    | some (.map kt et), some m, some k => match zeroT P et with
      | some z => (shOf P kt).map (.mapEntry (A.tagO o.dst) · m k z)
      | none => none
    | _, _, _ => none
  | .entryStore _ m0 s v => match opd fid m0, opd fid s, opd fid v with
    | some m, some s, some v => some (.entryStore (A.tagX m0) m s v)
    | _, _, _ => none
  | .extract x i => (opd fid x).map (.extract · i (A.takes o.dst x))
  | .call c => match c.callee with
    | .value (.func f) => match fid f, opds fid c.args.toList with
      | some f, some as => some (.call f as (if A.ro.contains f then .ro else if A.imp.contains f then .imp else if (match o.dst with | some d => A.own.contains d | none => false) then .own else .pure))
      | _, _ => none
    | .value x => match opd fid x, opds fid c.args.toList with
      | some x, some as => some (.callv x as (match o.dst with | some d => if A.pv.contains d then .pure else if A.ro.contains (1000000 + d) then .ro else .imp | none => .imp))
      | _, _ => none
    | .builtin b => digBuiltin P fid (A.tagO o.dst) b c.args.toList c.argTypes.toList
    | _ => none
  | _ => none

def digGuard (ops : Array Oper) (g : Option (Nat × Bool)) : Option (Option Nat × Bool) :=
  match g with
  | none => none
  | some (j, b) => some ((ops[j]?).bind (·.dst), b)
def digOps (ops : Array Oper) : List Oper → Nat → Option (List DOper)
  | [], _ => some []
  | o :: r, i => match digOp P fid A i o, digOps ops r (i + 1) with
    | some d, some ds => some ({ dst := o.dst, guard := digGuard ops o.guard, op := d } :: ds)
    | _, _ => none
end

/-! ### what an operation reads and writes: of regions that leave their order open -/
def Opd.ins : Opd → List Nat
  | .t n => [n]
  | _ => []
def oins : Option Opd → List Nat
  | some x => x.ins
  | none => []
def Loc.ins : Loc → List Nat
  | .reg s => [s]
  | _ => []
def DOp.ins : DOp → List Nat
  | .mov x _ | .boxR _ x | .boxH _ x | .faddr x _ | .field x _ _ _ | .len _ x | .un _ x | .conv _ x | .extract x _ _ | .nilchk x | .srange x => x.ins
  | .pick a b c => a.ins ++ b.ins ++ c.ins
  | .build _ ps => ps.flatMap fun p => p.2.2.ins
  | .bslice _ _ _ ps | .bsliceH _ _ ps => ps.flatMap fun p => p.2.ins
  | .load l x _ _ _ => l.ins ++ x.ins
  | .store l x v _ _ => l.ins ++ x.ins ++ v.ins
  | .idxA x i _ _ | .idxS x i _ | .index x i _ _ _ | .sindex x i | .bin _ x i | .eqAgg _ _ x i | .nilEq _ _ x i | .append x i _ _ | .copy _ x i | .mkslice _ x i _ _ _ => x.ins ++ i.ins
  | .slice _ x _ a b c => x.ins ++ oins a ++ oins b ++ oins c
  | .sliceA x _ _ a b => x.ins ++ oins a ++ oins b
  | .call _ as _ | .mkfn _ as | .mnmx _ as => as.flatMap Opd.ins
  | .callv x as _ => x.ins ++ as.flatMap Opd.ins
  | .mkmap _ => []
  | .insert _ _ a b c | .entryStore _ a b c => a.ins ++ b.ins ++ c.ins
  | .lookup _ _ a b _ _ _ | .mapEntry _ _ a b _ => a.ins ++ b.ins
  | .snext n => [n]
/-- the slots that an operation may set, beside its own. -/
def DOp.outs : DOp → List Nat
  | .mov x true => x.ins
  | .boxR _ x | .boxH _ x => x.ins
  | .load (.reg s) _ _ _ true => [s]
  | .store l _ v _ t => l.ins ++ (if t then v.ins else [])
  | .conv .bytesBytes x => x.ins
  | .append x _ _ _ => x.ins
  | .call _ as .imp => as.flatMap Opd.ins
  | .callv _ as .imp => as.flatMap Opd.ins
  | .extract x _ true => x.ins
  | .insert _ _ _ _ v | .entryStore _ _ _ v => v.ins
  | .snext n => [n]
  | _ => []
/-- the heap: which lists are read, which are written (4: all of them). -/
def DOp.hr : DOp → List Nat
  | .load (.heap g) _ _ _ _ => [g]
  | .store (.heap g) _ _ _ _ => [g]
  | .boxH g _ | .bsliceH g _ _ | .mkmap g | .insert g _ _ _ _ | .mapEntry g _ _ _ _ | .entryStore g _ _ _ | .mkslice g _ _ _ _ _ | .copy g _ _ => [g]
  | .lookup g _ _ _ _ _ _ => [g]
  | .call _ _ .ro | .call _ _ .imp | .callv _ _ .ro | .callv _ _ .imp => [0, 1, 2, 3]
  | _ => []
def DOp.hw : DOp → List Nat
  | .load (.heap g) _ _ _ true => [g]
  | .store (.heap g) _ _ _ _ => [g]
  | .boxH g _ | .bsliceH g _ _ | .mkmap g | .insert g _ _ _ _ | .mapEntry g _ _ _ _ | .entryStore g _ _ _ | .mkslice g _ _ _ _ _ | .copy g _ _ => [g]
  | .lookup g _ _ _ _ _ true => [g]
  | .call _ _ .imp | .callv _ _ .imp => [0, 1, 2, 3]
  | _ => []
def DOper.ins (o : DOper) : List Nat := (match o.guard with | some (some t, _) => [t] | _ => []) ++ o.op.ins
def DOper.outs (o : DOper) : List Nat := o.dst.toList ++ o.op.outs
def apart (a b : List Nat) : Bool := a.all fun x => !b.contains x
/-- may two operations change places? -/
def commute (a b : DOper) : Bool :=
  apart a.ins b.outs && apart b.ins a.outs && apart a.outs b.outs && apart a.op.hr b.op.hw && apart b.op.hr a.op.hw && apart a.op.hw b.op.hw
def edges (o : Oper) : List Nat := o.after.toList.filterMap fun e => match e.ground with
  | .textOnly _ => none
  | .gcOnly _ => none
  | _ => some e.on
/-- all that are ahead of an operation, through edges that bind always. -/
def aheads (ops : List Oper) : List (List Nat) :=
  ops.foldl (fun acc o => acc ++ [(edges o).flatMap fun i => i :: acc.getD i []]) []
def pairsOk (ahead : List Nat) (b : DOper) : List DOper → Nat → Bool
  | [], _ => true
  | a :: r, i => (ahead.contains i || commute a b) && pairsOk ahead b r (i + 1)
def drawOk (ahs : List (List Nat)) : List DOper → List DOper → Nat → Bool
  | _, [], _ => true
  | seen, b :: r, j => pairsOk (ahs.getD j []) b seen 0 && drawOk ahs (seen ++ [b]) r (j + 1)

/-- the operations whose places may change. -/
def DOp.plain : DOp → Bool
  | .mov .. | .pick .. | .boxR .. | .boxH .. | .build .. | .bslice .. | .load .. | .store .. | .faddr .. | .idxA .. | .idxS .. | .index .. | .sindex .. | .field .. | .len .. | .bin .. | .eqAgg .. | .nilEq .. | .un .. | .conv .. | .slice .. | .sliceA .. | .append .. | .call .. | .callv .. | .extract .. | .mkfn .. | .mkmap .. | .insert .. | .lookup .. | .nilchk .. | .mnmx .. => true
  | _ => false
/-- a row of all operations in which each is behind those that it waits for. -/
def topoGo (md : Region.Mode) (ops : Array Oper) : List Nat → List Nat → Bool
  | _, [] => true
  | seen, i :: r => (match ops[i]? with
    | some o => o.after.toList.all fun e => !Region.binds md e || seen.contains e.on
    | none => false) && topoGo md ops (i :: seen) r
def topoOk (md : Region.Mode) (ops : Array Oper) (l : List Nat) : Bool := topoGo md ops [] l && (List.range ops.size).all fun i => l.contains i
def ordersOk (ops : Array Oper) (gc : List Nat) : Bool :=
  topoOk .any ops (List.range ops.size) && (!Region.departs ops || (topoOk .text ops (List.range ops.size) && topoOk .gc ops gc))
def dstOk (nt : Nat) (os : List DOper) : Bool := os.all fun o => match o.dst with
  | some d => decide (d < nt)
  | none => true

section
variable (P : Program) (fid : FuncId → Option Nat) (A : Ann) (nt : Nat)
def digCode : Code → Option DCode
  | .skip => some .skip
  | .region id ops draw => match digOps P fid A ops ops.toList 0 with
    | some os => if dstOk nt os && (!draw || (drawOk (aheads ops.toList) [] os 0 && os.all (fun o => o.op.plain) && ordersOk ops (A.gcOf id))) then some (.region draw os (A.keepOf id)) else none
    | none => none
  | .seq a b => match digCode a, digCode b with
    | some a, some b => some (.seq a b)
    | _, _ => none
  | .cond c a b => match opd fid c, digCode a, digCode b with
    | some c, some a, some b => some (.cond c a b)
    | _, _, _ => none
  | .block id b => (digCode b).map (.block id)
  | .loop b => (digCode b).map .loop
  | .exit id => some (.exit id)
  | .ret => some .ret
  | .label _ => some .skip
  | .scope b => digCode b
  | _ => none
def digRes : List ResultVar → Option (List Res)
  | [] => some []
  | .tmp t :: r => (digRes r).map (.tmp t :: ·)
  | .cell a t :: r => match sizeT P t, isAggT P t, digRes r with
    | some n, some g, some rs => some (.cell a n g :: rs)
    | _, _, _ => none
def Res.slot : Res → Nat
  | .tmp t => t
  | .cell t _ _ => t
def digFun (fn : Func) : Option DFun :=
  match fn.body with
  | some b => match digCode P fid A fn.ntmps b, digRes P fn.results.toList with
    | some c, some rs => if fn.params.size + fn.nfree ≤ fn.ntmps ∧ fn.name ≠ "runtime.NumGoroutine" ∧ (rs.map Res.slot).Nodup then some { nparams := fn.params.size + fn.nfree, ntmps := fn.ntmps, results := rs, body := c } else none
    | _, _ => none
  | none => none
end
end Go.Ab

/-
  A machine without memory (part 4): how its values lie in memory, and that they lie there still when memory grows. Conditions: none (definitions and lemmas).
-/
namespace Go.Ab

/-- cells that may yet be written. -/
abbrev MSet := Nat → Nat → Prop
def isAggV : Value → Bool
  | .agg _ => true
  | _ => false
def cellsAt (w : World) (M : MSet) (b o : Nat) (vs : List Value) : Prop :=
  ∀ j v, vs[j]? = some v → w.cell? ⟨b, o + j, none⟩ = some v ∧ ¬ M b (o + j)

/-- a map's entries bear their places as marks. -/
def Born (es : Array MapEntry) (clock : Nat) : Prop := clock = es.size ∧ ∀ (j : Nat) e, es[j]? = some e → e.born = j
section
variable (cid : FuncId → Option Nat) (w : World) (M : MSet)
mutual
/-- data, and the cells that it takes. -/
def RDc : D → List Value → Prop
  | .bool b, vs => vs = [.bool b]
  | .int k n, vs => vs = [.int k n]
  | .str s, vs => ∃ bs : ByteArray, vs = [.string bs] ∧ bs.data.toList = s
  | .nilp, vs => vs = [.pointer none]
  | .nilf, vs => vs = [.nilFunc]
  | .nilm, vs => vs = [.map none]
  | .fnc f, vs => ∃ g, cid g = some f ∧ vs = [.func (.func g) #[] #[]]
  | .agg ds, vs => RDall ds vs
  | .lst xs, vs => ∃ a len cap, vs = [.slice a len cap] ∧ len = xs.length ∧ len ≤ cap ∧ (xs ≠ [] → ∃ b o sz, a = some ⟨b, o, none⟩ ∧ 0 < sz ∧ RDels xs b o sz)
  | .tup _, _ => False
  | .fmap ks es, vs => ∃ r ents clock, vs = [.map (some r)] ∧ w.heap[r]? = some (.map ents clock) ∧ ¬ M r 0 ∧ RDkeys ks ents.toList ∧ RDvals es ents.toList ∧ Born ents clock
def RDall : List D → List Value → Prop
  | [], vs => vs = []
  | d :: ds, vs => ∃ v r, vs = v :: r ∧ d.isAgg = false ∧ RDc d [v] ∧ RDall ds r
def RDels : List D → Nat → Nat → Nat → Prop
  | [], _, _, _ => True
  | x :: xs, b, o, sz => (∃ vs, vs.length = sz ∧ RDc x vs ∧ cellsAt w M b o vs) ∧ RDels xs b (o + sz) sz
def RDkeys : List D → List MapEntry → Prop
  | [], es => es = []
  | k :: ks, es => ∃ e r, es = e :: r ∧ RDc k e.key.cells.toList ∧ k.isAgg = isAggV e.key ∧ RDkeys ks r
def RDvals : List D → List MapEntry → Prop
  | [], es => es = []
  | k :: ks, es => ∃ e r, es = e :: r ∧ RDc k e.val.cells.toList ∧ k.isAgg = isAggV e.val ∧ RDvals ks r
end
/-- data, and a value. -/
def RV0 (d : D) (v : Value) : Prop := RDc cid w M d v.cells.toList ∧ d.isAgg = isAggV v
mutual
def RV : D → Value → Prop
  | .tup ds, v => ∃ vs, v = .tuple vs ∧ RVs ds vs.toList
  | d, v => RV0 cid w M d v
def RVs : List D → List Value → Prop
  | [], vs => vs = []
  | d :: ds, vs => ∃ v r, vs = v :: r ∧ RV d v ∧ RVs ds r
end
end

/-- memory may have grown, and what must not be written is as it was. -/
structure Ext (w : World) (M : MSet) (w' : World) (M' : MSet) : Prop where
  size : w.heap.size ≤ w'.heap.size
  m : ∀ b o, b < w.heap.size → ¬ M b o → ¬ M' b o
  cell : ∀ b o v, ¬ M b o → w.cell? ⟨b, o, none⟩ = some v → w'.cell? ⟨b, o, none⟩ = some v
  map : ∀ b es c, ¬ M b 0 → w.heap[b]? = some (.map es c) → w'.heap[b]? = some (.map es c)
theorem Ext.refl (w : World) (M : MSet) : Ext w M w M := ⟨Nat.le_refl _, fun _ _ _ h => h, fun _ _ _ _ h => h, fun _ _ _ _ h => h⟩
theorem Ext.shrink {w : World} {M M' : MSet} (h : ∀ b o, M' b o → M b o) : Ext w M w M' := ⟨Nat.le_refl _, fun b o _ hn h' => hn (h b o h'), fun _ _ _ _ h => h, fun _ _ _ _ h => h⟩

theorem lt_of_cell {w : World} {b o : Nat} {v : Value} (h : w.cell? ⟨b, o, none⟩ = some v) : b < w.heap.size := by
  unfold World.cell? at h
  cases hb : w.heap[b]? with
  | none => simp [hb] at h
  | some x => exact (Array.getElem?_eq_some_iff.1 hb).1

theorem cellsAt_mono {w w' : World} {M M' : MSet} (hx : Ext w M w' M') {b o : Nat} {vs : List Value} (h : cellsAt w M b o vs) : cellsAt w' M' b o vs := by
  intro j v hv
  obtain ⟨hc, hm⟩ := h j v hv
  exact ⟨hx.cell _ _ _ hm hc, hx.m _ _ (lt_of_cell hc) hm⟩

section
variable {cid : FuncId → Option Nat} {w w' : World} {M M' : MSet}
mutual
theorem RDc_mono (hx : Ext w M w' M') : ∀ (d : D) (vs : List Value), RDc cid w M d vs → RDc cid w' M' d vs
  | .bool b, vs, h => by simpa [RDc] using h
  | .int k n, vs, h => by simpa [RDc] using h
  | .str s, vs, h => by simpa [RDc] using h
  | .nilp, vs, h => by simpa [RDc] using h
  | .nilf, vs, h => by simpa [RDc] using h
  | .nilm, vs, h => by simpa [RDc] using h
  | .fnc f, vs, h => by simpa [RDc] using h
  | .agg ds, vs, h => by
    simp only [RDc] at h ⊢
    exact RDall_mono hx ds vs h
  | .lst xs, vs, h => by
    simp only [RDc] at h ⊢
    obtain ⟨a, len, cap, h1, h2, h3, h4⟩ := h
    refine ⟨a, len, cap, h1, h2, h3, fun hne => ?_⟩
    obtain ⟨b, o, sz, h5, h6, h7⟩ := h4 hne
    exact ⟨b, o, sz, h5, h6, RDels_mono hx xs b o sz h7⟩
  | .tup _, vs, h => by simp [RDc] at h
  | .fmap ks es, vs, h => by
    simp only [RDc] at h ⊢
    obtain ⟨r, ents, clock, h1, h2, h3, h4, h5⟩ := h
    exact ⟨r, ents, clock, h1, hx.map _ _ _ h3 h2, hx.m _ _ (Array.getElem?_eq_some_iff.1 h2).1 h3, RDkeys_mono hx ks _ h4, RDvals_mono hx es _ h5.1, h5.2⟩
theorem RDall_mono (hx : Ext w M w' M') : ∀ (ds : List D) (vs : List Value), RDall cid w M ds vs → RDall cid w' M' ds vs
  | [], vs, h => by simpa [RDall] using h
  | d :: ds, vs, h => by
    simp only [RDall] at h ⊢
    obtain ⟨v, r, h1, h2, h3, h4⟩ := h
    exact ⟨v, r, h1, h2, RDc_mono hx d _ h3, RDall_mono hx ds r h4⟩
theorem RDels_mono (hx : Ext w M w' M') : ∀ (xs : List D) (b o sz : Nat), RDels cid w M xs b o sz → RDels cid w' M' xs b o sz
  | [], _, _, _, _ => by simp [RDels]
  | x :: xs, b, o, sz, h => by
    simp only [RDels] at h ⊢
    obtain ⟨⟨vs, h1, h2, h3⟩, h4⟩ := h
    exact ⟨⟨vs, h1, RDc_mono hx x vs h2, cellsAt_mono hx h3⟩, RDels_mono hx xs b _ sz h4⟩
theorem RDkeys_mono (hx : Ext w M w' M') : ∀ (ks : List D) (es : List MapEntry), RDkeys cid w M ks es → RDkeys cid w' M' ks es
  | [], es, h => by simpa [RDkeys] using h
  | k :: ks, es, h => by
    simp only [RDkeys] at h ⊢
    obtain ⟨e, r, h1, h2, h3, h4⟩ := h
    exact ⟨e, r, h1, RDc_mono hx k _ h2, h3, RDkeys_mono hx ks r h4⟩
theorem RDvals_mono (hx : Ext w M w' M') : ∀ (ks : List D) (es : List MapEntry), RDvals cid w M ks es → RDvals cid w' M' ks es
  | [], es, h => by simpa [RDvals] using h
  | k :: ks, es, h => by
    simp only [RDvals] at h ⊢
    obtain ⟨e, r, h1, h2, h3, h4⟩ := h
    exact ⟨e, r, h1, RDc_mono hx k _ h2, h3, RDvals_mono hx ks r h4⟩
end
theorem RV0_mono (hx : Ext w M w' M') {d : D} {v : Value} (h : RV0 cid w M d v) : RV0 cid w' M' d v := ⟨RDc_mono hx _ _ h.1, h.2⟩
theorem RV_fine {d : D} {v : Value} (hd : d.fine = true) : RV cid w M d v ↔ RV0 cid w M d v := by
  cases d <;> simp_all [RV, D.fine]
mutual
theorem RV_mono (hx : Ext w M w' M') : ∀ (d : D) (v : Value), RV cid w M d v → RV cid w' M' d v
  | .tup ds, v, h => by
    simp only [RV] at h ⊢
    obtain ⟨vs, h1, h2⟩ := h
    exact ⟨vs, h1, RVs_mono hx ds _ h2⟩
  | .bool b, v, h => by simp only [RV] at h ⊢; exact RV0_mono hx h
  | .int k n, v, h => by simp only [RV] at h ⊢; exact RV0_mono hx h
  | .str s, v, h => by simp only [RV] at h ⊢; exact RV0_mono hx h
  | .nilp, v, h => by simp only [RV] at h ⊢; exact RV0_mono hx h
  | .nilf, v, h => by simp only [RV] at h ⊢; exact RV0_mono hx h
  | .nilm, v, h => by simp only [RV] at h ⊢; exact RV0_mono hx h
  | .fnc f, v, h => by simp only [RV] at h ⊢; exact RV0_mono hx h
  | .agg ds, v, h => by simp only [RV] at h ⊢; exact RV0_mono hx h
  | .lst xs, v, h => by simp only [RV] at h ⊢; exact RV0_mono hx h
  | .fmap ks es, v, h => by simp only [RV] at h ⊢; exact RV0_mono hx h
theorem RVs_mono (hx : Ext w M w' M') : ∀ (ds : List D) (vs : List Value), RVs cid w M ds vs → RVs cid w' M' ds vs
  | [], vs, h => by simpa only [RVs] using h
  | d :: ds, vs, h => by
    simp only [RVs] at h ⊢
    obtain ⟨v, r, h1, h2, h3⟩ := h
    exact ⟨v, r, h1, RV_mono hx d v h2, RVs_mono hx ds r h3⟩
end
end

/-! ### Facts about data in memory -/
section
variable {cid : FuncId → Option Nat} {w : World} {M : MSet}
theorem RDall_length : ∀ (ds : List D) (vs : List Value), RDall cid w M ds vs → vs.length = ds.length
  | [], vs, h => by simp only [RDall] at h; simp [h]
  | d :: ds, vs, h => by
    simp only [RDall] at h
    obtain ⟨v, r, rfl, _, _, h4⟩ := h
    simp [RDall_length ds r h4]
theorem RDc_length {d : D} {vs : List Value} (h : RDc cid w M d vs) : vs.length = d.cells.length := by
  cases d with
  | agg ds => simp only [RDc] at h; simpa [D.cells] using RDall_length ds vs h
  | bool b => simp only [RDc] at h; simp [h, D.cells]
  | int k n => simp only [RDc] at h; simp [h, D.cells]
  | str s => simp only [RDc] at h; obtain ⟨bs, h, _⟩ := h; simp [h, D.cells]
  | nilp => simp only [RDc] at h; simp [h, D.cells]
  | nilf => simp only [RDc] at h; simp [h, D.cells]
  | nilm => simp only [RDc] at h; simp [h, D.cells]
  | fnc f => simp only [RDc] at h; obtain ⟨_, _, h⟩ := h; simp [h, D.cells]
  | lst xs => simp only [RDc] at h; obtain ⟨_, _, _, h, _⟩ := h; simp [h, D.cells]
  | tup xs => simp [RDc] at h
  | fmap ks es => simp only [RDc] at h; obtain ⟨_, _, _, h, _⟩ := h; simp [h, D.cells]
/-- one cell's data is one value, and no struct. -/
theorem RDc_one {d : D} {vs : List Value} (h : RDc cid w M d vs) (hd : d.isAgg = false) : ∃ v, vs = [v] ∧ v.cells = #[v] ∧ isAggV v = false ∧ v.oneCell' = true := by
  cases d with
  | agg ds => simp [D.isAgg] at hd
  | bool b => simp only [RDc] at h; exact ⟨_, h, rfl, rfl, rfl⟩
  | int k n => simp only [RDc] at h; exact ⟨_, h, rfl, rfl, rfl⟩
  | str s => simp only [RDc] at h; obtain ⟨bs, h, _⟩ := h; exact ⟨_, h, rfl, rfl, rfl⟩
  | nilp => simp only [RDc] at h; exact ⟨_, h, rfl, rfl, rfl⟩
  | nilf => simp only [RDc] at h; exact ⟨_, h, rfl, rfl, rfl⟩
  | nilm => simp only [RDc] at h; exact ⟨_, h, rfl, rfl, rfl⟩
  | fnc f => simp only [RDc] at h; obtain ⟨_, _, h⟩ := h; exact ⟨_, h, rfl, rfl, rfl⟩
  | lst xs => simp only [RDc] at h; obtain ⟨_, _, _, h, _⟩ := h; exact ⟨_, h, rfl, rfl, rfl⟩
  | tup xs => simp [RDc] at h
  | fmap ks es => simp only [RDc] at h; obtain ⟨_, _, _, h, _⟩ := h; exact ⟨_, h, rfl, rfl, rfl⟩
theorem RV0_of_cell {d : D} {v : Value} (h : RDc cid w M d [v]) (hd : d.isAgg = false) : RV0 cid w M d v := by
  obtain ⟨v', h1, h2, h3, _⟩ := RDc_one h hd
  obtain rfl : v = v' := by simpa using h1
  exact ⟨by rw [h2]; exact h, by rw [hd, h3]⟩
theorem RV0_agg {ds : List D} {v : Value} (h : RV0 cid w M (.agg ds) v) : ∃ cs, v = .agg cs ∧ RDall cid w M ds cs.toList := by
  obtain ⟨h1, h2⟩ := h
  cases v <;> simp [isAggV, D.isAgg] at h2
  rename_i cs
  exact ⟨cs, rfl, by simpa [RDc, Value.cells] using h1⟩
theorem RV0_one {d : D} {v : Value} (h : RV0 cid w M d v) (hd : d.isAgg = false) : RDc cid w M d [v] ∧ v.cells = #[v] ∧ v.oneCell' = true := by
  obtain ⟨h1, h2⟩ := h
  obtain ⟨v', e1, e2, e3, e4⟩ := RDc_one h1 hd
  have hv : v.cells = #[v] := by
    cases v <;> simp_all [isAggV, Value.cells]
  rw [hv] at h1 e1
  obtain rfl : v = v' := by simpa using e1
  exact ⟨h1, hv, e4⟩
theorem RV0_cells {d : D} {v : Value} (h : RV0 cid w M d v) : RDc cid w M d v.cells.toList := h.1
theorem RDels_get : ∀ (xs : List D) (b o sz i : Nat) (x : D), RDels cid w M xs b o sz → xs[i]? = some x → ∃ vs, vs.length = sz ∧ RDc cid w M x vs ∧ cellsAt w M b (o + i * sz) vs
  | [], _, _, _, i, x, _, h => by simp at h
  | y :: ys, b, o, sz, 0, x, h, hi => by
    simp only [RDels] at h
    simp only [List.getElem?_cons_zero, Option.some.injEq] at hi
    subst hi
    simpa using h.1
  | y :: ys, b, o, sz, i + 1, x, h, hi => by
    simp only [RDels] at h
    obtain ⟨vs, h1, h2, h3⟩ := RDels_get ys b (o + sz) sz i x h.2 (by simpa using hi)
    exact ⟨vs, h1, h2, by rw [show o + (i + 1) * sz = o + sz + i * sz by rw [Nat.add_mul]; omega]; exact h3⟩
theorem RDels_append : ∀ (xs ys : List D) (b o sz : Nat), RDels cid w M (xs ++ ys) b o sz ↔ RDels cid w M xs b o sz ∧ RDels cid w M ys b (o + xs.length * sz) sz
  | [], ys, b, o, sz => by simp [RDels]
  | x :: xs, ys, b, o, sz => by
    simp only [List.cons_append, RDels, RDels_append xs ys, List.length_cons, Nat.add_mul, Nat.one_mul]
    rw [show o + sz + xs.length * sz = o + (xs.length * sz + sz) by omega]
    constructor
    · rintro ⟨h1, h2, h3⟩; exact ⟨⟨h1, h2⟩, h3⟩
    · rintro ⟨⟨h1, h2⟩, h3⟩; exact ⟨h1, h2, h3⟩
theorem RDall_get : ∀ (ds : List D) (vs : List Value) (i : Nat) (d : D), RDall cid w M ds vs → ds[i]? = some d → ∃ v, vs[i]? = some v ∧ d.isAgg = false ∧ RDc cid w M d [v]
  | [], _, i, d, _, h => by simp at h
  | x :: xs, vs, 0, d, h, hi => by
    simp only [RDall] at h
    obtain ⟨v, r, rfl, h2, h3, _⟩ := h
    simp only [List.getElem?_cons_zero, Option.some.injEq] at hi
    subst hi
    exact ⟨v, rfl, h2, h3⟩
  | x :: xs, vs, i + 1, d, h, hi => by
    simp only [RDall] at h
    obtain ⟨v, r, rfl, _, _, h4⟩ := h
    obtain ⟨u, h5, h6⟩ := RDall_get xs r i d h4 (by simpa using hi)
    exact ⟨u, by simpa using h5, h6⟩
theorem RVs_get : ∀ (ds : List D) (vs : List Value) (i : Nat) (d : D), RVs cid w M ds vs → ds[i]? = some d → ∃ v, vs[i]? = some v ∧ RV cid w M d v
  | [], _, i, d, _, h => by simp at h
  | x :: xs, vs, 0, d, h, hi => by
    simp only [RVs] at h
    obtain ⟨v, r, rfl, h2, _⟩ := h
    simp only [List.getElem?_cons_zero, Option.some.injEq] at hi
    subst hi
    exact ⟨v, rfl, h2⟩
  | x :: xs, vs, i + 1, d, h, hi => by
    simp only [RVs] at h
    obtain ⟨v, r, rfl, _, h4⟩ := h
    obtain ⟨u, h5, h6⟩ := RVs_get xs r i d h4 (by simpa using hi)
    exact ⟨u, by simpa using h5, h6⟩
theorem RDall_append : ∀ (ds es : List D) (vs : List Value), RDall cid w M (ds ++ es) vs ↔ ∃ us ws, vs = us ++ ws ∧ RDall cid w M ds us ∧ RDall cid w M es ws
  | [], es, vs => by
    simp only [List.nil_append, RDall]
    constructor
    · intro h; exact ⟨[], vs, rfl, rfl, h⟩
    · rintro ⟨_, ws, rfl, rfl, h⟩; exact h
  | d :: ds, es, vs => by
    simp only [List.cons_append, RDall, RDall_append ds es]
    constructor
    · rintro ⟨v, r, rfl, h2, h3, us, ws, rfl, h4, h5⟩
      exact ⟨v :: us, ws, rfl, ⟨v, us, rfl, h2, h3, h4⟩, h5⟩
    · rintro ⟨_, ws, rfl, ⟨v, us, rfl, h2, h3, h4⟩, h5⟩
      exact ⟨v, us ++ ws, rfl, h2, h3, us, ws, rfl, h4, h5⟩
theorem RDall_drop : ∀ (n : Nat) (ds : List D) (vs : List Value), RDall cid w M ds vs → RDall cid w M (ds.drop n) (vs.drop n)
  | 0, ds, vs, h => by simpa using h
  | n + 1, [], vs, h => by simp only [RDall] at h; subst h; simp [RDall]
  | n + 1, d :: ds, vs, h => by
    simp only [RDall] at h
    obtain ⟨v, r, rfl, _, _, h4⟩ := h
    simpa using RDall_drop n ds r h4
theorem RDall_take : ∀ (n : Nat) (ds : List D) (vs : List Value), RDall cid w M ds vs → RDall cid w M (ds.take n) (vs.take n)
  | 0, ds, vs, _ => by simp [RDall]
  | n + 1, [], vs, h => by simp only [RDall] at h; subst h; simp [RDall]
  | n + 1, d :: ds, vs, h => by
    simp only [RDall] at h
    obtain ⟨v, r, rfl, h2, h3, h4⟩ := h
    simp only [List.take_succ_cons, RDall]
    exact ⟨v, _, rfl, h2, h3, RDall_take n ds r h4⟩
end
end Go.Ab

/-
  A machine without memory (part 5): slots, the heap and what a state owns; how a state lies in a frame and in memory. Conditions: none (definitions and lemmas).
-/
namespace Go.Ab

abbrev Own := List (Nat × Nat)
inductive Key where
  | slot (t : Nat)
  | obj (tg i : Nat)
  | pend
  deriving DecidableEq
abbrev OwnF := Key → Own
abbrev Rho := Nat → Nat → Option Nat
def blocks (O : Own) : List Nat := O.map Prod.fst
def MOf (M0 : MSet) (own : OwnF) : MSet := fun b o => M0 b o ∨ ∃ k l, (b, l) ∈ own k ∧ l ≤ o
def OwnF.upd (own : OwnF) (k : Key) (O : Own) : OwnF := fun k' => if k' = k then O else own k'
@[simp] theorem OwnF.upd_same (own : OwnF) (k : Key) (O : Own) : own.upd k O k = O := by simp [OwnF.upd]
theorem OwnF.upd_other (own : OwnF) {k k' : Key} (O : Own) (h : k' ≠ k) : own.upd k O k' = own k' := by simp [OwnF.upd, h]

/-- what is frozen of a block of n cells lies behind them. -/
def FrOk (fr : Nat × Nat) (n : Nat) : Prop := fr.1 = fr.2 ∨ n ≤ fr.1
theorem FrOk.not {fr : Nat × Nat} {n o : Nat} (h : FrOk fr n) (ho : o < n) : (decide (fr.1 ≤ o) && decide (o < fr.2)) = false := by
  simp only [Bool.and_eq_false_iff, decide_eq_false_iff_not]
  rcases h with h | h <;> omega
/-- a block of cells that may all be written. -/
def Cells (w : World) (b : Nat) (cs : List Value) : Prop :=
  ∃ e fr, w.heap[b]? = some (.cells cs.toArray e fr) ∧ FrOk fr cs.length
/-- a block of so many cells, of which all may be written. -/
def Spare (w : World) (b n : Nat) : Prop :=
  ∃ cs e fr, w.heap[b]? = some (.cells cs e fr) ∧ n ≤ cs.size ∧ FrOk fr cs.size

section
variable (cid : FuncId → Option Nat) (w : World) (M : MSet) (ρ : Rho)
mutual
def RA : AV → Value → Own → Prop
  | .d x, v, O => RV cid w M x v ∧ O = []
  | .acc sz xs, v, O => ∃ a len cap, v = .slice a len cap ∧ RDc cid w M (.lst xs) [v] ∧
      ((cap = 0 ∧ O = []) ∨ (0 < sz ∧ ∃ b, a = some ⟨b, 0, none⟩ ∧ O = [(b, len * sz)] ∧ RDels cid w M xs b 0 sz ∧ Spare w b (cap * sz)))
  | .full sz xs, v, O => ∃ a len, v = .slice a len len ∧ RDc cid w M (.lst xs) [v] ∧ (xs ≠ [] → ∃ b o, a = some ⟨b, o, none⟩ ∧ 0 < sz ∧ RDels cid w M xs b o sz) ∧ O = []
  | .ptr tg i off, v, O => ∃ b, ρ tg i = some b ∧ v = .pointer (some ⟨b, off, none⟩) ∧ O = []
  | .fn f caps, v, O => ∃ g cs, cid g = some f ∧ v = .func (.func g) #[] cs ∧ RAs caps cs.toList [] ∧ O = []
  | .arr tg i off len, v, O => ∃ p cap, v = .slice p len cap ∧ len ≤ cap ∧ (0 < len → ∃ b, ρ tg i = some b ∧ p = some ⟨b, off, none⟩) ∧ O = []
  | .agg as, v, O => ∃ cs, v = .agg cs ∧ as.all AV.one = true ∧ RAs as cs.toList O
  | .tup as, v, O => ∃ vs, v = .tuple vs ∧ RAs as vs.toList O
  | .mapr tg i, v, O => ∃ b, ρ tg i = some b ∧ v = .map (some b) ∧ O = []
def RAs : List AV → List Value → Own → Prop
  | [], vs, O => vs = [] ∧ O = []
  | a :: as, vs, O => ∃ v r O1 O2, vs = v :: r ∧ RA a v O1 ∧ RAs as r O2 ∧ O = O1 ++ O2
end
/-- what a block of cells holds: a struct's, or one value. -/
def RBox (a : AV) (cs : List Value) (O : Own) : Prop :=
  if a.isAgg then RA cid w M ρ a (.agg cs.toArray) O else ∃ v, cs = [v] ∧ a.one = true ∧ RA cid w M ρ a v O
/-- a slot, and what stands in the frame for it. -/
def SlotR (e : Env) (tmps : Array Value) : Slot → Value → Own → Prop
  | .v a, v, O => RA cid w M ρ a v O
  | .var _ a, v, O => ∃ b cs O', v = .pointer (some ⟨b, 0, none⟩) ∧ Cells w b cs ∧ RBox cid w M ρ a cs O' ∧ O = (b, 0) :: O'
  | .vp s st off, v, O => O = [] ∧ ∃ b, v = .pointer (some ⟨b, off, none⟩) ∧ ∀ a, e.get s = some (.var st a) → tmps.getD s undef = .pointer (some ⟨b, 0, none⟩)
  | .ep x off, v, O => O = [] ∧ ∃ b o vs, v = .pointer (some ⟨b, o + off, none⟩) ∧ RDc cid w M x vs ∧ cellsAt w M b o vs
  | .gp g off, v, O => O = [] ∧ v = .pointer (some ⟨g, off, none⟩)
  | .siter s pos, v, O => ∃ r bs, v = .pointer (some ⟨r, 0, none⟩) ∧ w.heap[r]? = some (.stringIter bs pos) ∧ bs.data.toList = s ∧ O = [(r, 0)]
  | .undef, v, O => v = undef ∧ O = []
/-- an object of the heap, and the block that it is. -/
def HR : HObj → Nat → Own → Prop
  | .cells as, b, O => ∃ cs O', Cells w b cs ∧ as.all AV.one = true ∧ RAs cid w M ρ as cs O' ∧ O = (b, 0) :: O'
  | .map ks vs, b, O => ∃ es O', w.heap[b]? = some (.map es es.size) ∧ (∀ (j : Nat) e, es[j]? = some e → e.born = j) ∧ RDkeys cid w M ks es.toList ∧ RAs cid w M ρ vs (es.toList.map MapEntry.val) O' ∧ O = (b, 0) :: O'
end

section
variable {cid : FuncId → Option Nat} {w w' : World} {M M' : MSet} {ρ ρ' : Rho}
theorem Cells_same {b : Nat} {cs : List Value} (h : Cells w b cs) (hb : w'.heap[b]? = w.heap[b]?) : Cells w' b cs := by
  obtain ⟨e, fr, h1, h2⟩ := h
  exact ⟨e, fr, hb.trans h1, h2⟩
mutual
theorem RA_mono (hx : Ext w M w' M') (hρ : ∀ tg i b, ρ tg i = some b → ρ' tg i = some b) :
    ∀ (a : AV) (v : Value) (O : Own), (∀ b ∈ blocks O, w'.heap[b]? = w.heap[b]?) → RA cid w M ρ a v O → RA cid w' M' ρ' a v O
  | .d x, v, O, hb, h => by
    simp only [RA] at h ⊢
    exact ⟨RV_mono hx _ _ h.1, h.2⟩
  | .acc sz xs, v, O, hb, h => by
    simp only [RA] at h ⊢
    obtain ⟨a, len, cap, h1, h2, h3⟩ := h
    refine ⟨a, len, cap, h1, RDc_mono hx _ _ h2, ?_⟩
    rcases h3 with h3 | ⟨h3, b, h4, h5, h6, cs, e, fr, h7, h8, h9⟩
    · exact .inl h3
    · exact .inr ⟨h3, b, h4, h5, RDels_mono hx _ _ _ _ h6, cs, e, fr, (hb b (by simp [h5, blocks])).trans h7, h8, h9⟩
  | .full sz xs, v, O, hb, h => by
    simp only [RA] at h ⊢
    obtain ⟨a, len, h1, h2, h3, h4⟩ := h
    refine ⟨a, len, h1, RDc_mono hx _ _ h2, fun hne => ?_, h4⟩
    obtain ⟨b, o, h5, h6, h7⟩ := h3 hne
    exact ⟨b, o, h5, h6, RDels_mono hx _ _ _ _ h7⟩
  | .ptr tg i off, v, O, hb, h => by
    simp only [RA] at h ⊢
    obtain ⟨b, h1, h2, h3⟩ := h
    exact ⟨b, hρ _ _ _ h1, h2, h3⟩
  | .fn f caps, v, O, hb, h => by
    simp only [RA] at h ⊢
    obtain ⟨g, cs, h1, h2, h3, h4⟩ := h
    exact ⟨g, cs, h1, h2, RAs_mono hx hρ caps _ [] (by simp [blocks]) h3, h4⟩
  | .arr tg i off len, v, O, hb, h => by
    simp only [RA] at h ⊢
    obtain ⟨p, cap, h1, h2, h3, h4⟩ := h
    exact ⟨p, cap, h1, h2, fun hl => let ⟨b, h5, h6⟩ := h3 hl; ⟨b, hρ _ _ _ h5, h6⟩, h4⟩
  | .agg as, v, O, hb, h => by
    simp only [RA] at h ⊢
    obtain ⟨cs, h1, h2, h3⟩ := h
    exact ⟨cs, h1, h2, RAs_mono hx hρ as _ O hb h3⟩
  | .tup as, v, O, hb, h => by
    simp only [RA] at h ⊢
    obtain ⟨cs, h1, h3⟩ := h
    exact ⟨cs, h1, RAs_mono hx hρ as _ O hb h3⟩
  | .mapr tg i, v, O, hb, h => by
    simp only [RA] at h ⊢
    obtain ⟨b, h1, h2⟩ := h
    exact ⟨b, hρ _ _ _ h1, h2⟩
theorem RAs_mono (hx : Ext w M w' M') (hρ : ∀ tg i b, ρ tg i = some b → ρ' tg i = some b) :
    ∀ (as : List AV) (vs : List Value) (O : Own), (∀ b ∈ blocks O, w'.heap[b]? = w.heap[b]?) → RAs cid w M ρ as vs O → RAs cid w' M' ρ' as vs O
  | [], vs, O, _, h => by simpa [RAs] using h
  | a :: as, vs, O, hb, h => by
    simp only [RAs] at h ⊢
    obtain ⟨v, r, O1, O2, h1, h2, h3, rfl⟩ := h
    exact ⟨v, r, O1, O2, h1, RA_mono hx hρ a v O1 (fun b hm => hb b (by simp only [blocks, List.map_append, List.mem_append]; exact .inl hm)) h2,
      RAs_mono hx hρ as r O2 (fun b hm => hb b (by simp only [blocks, List.map_append, List.mem_append]; exact .inr hm)) h3, rfl⟩
end
theorem RBox_mono (hx : Ext w M w' M') (hρ : ∀ tg i b, ρ tg i = some b → ρ' tg i = some b) {a : AV} {cs : List Value} {O : Own}
    (hb : ∀ b ∈ blocks O, w'.heap[b]? = w.heap[b]?) (h : RBox cid w M ρ a cs O) : RBox cid w' M' ρ' a cs O := by
  unfold RBox at h ⊢
  split
  · rw [if_pos ‹_›] at h; exact RA_mono hx hρ _ _ _ hb h
  · rw [if_neg ‹_›] at h
    obtain ⟨v, h1, h2, h3⟩ := h
    exact ⟨v, h1, h2, RA_mono hx hρ _ _ _ hb h3⟩
/-- a slot is related as before, where what it owns, and what it points at, is as before. -/
theorem SlotR_mono (hx : Ext w M w' M') (hρ : ∀ tg i b, ρ tg i = some b → ρ' tg i = some b) {e e' : Env} {tmps tmps' : Array Value} {s : Slot} {v : Value} {O : Own}
    (hb : ∀ b ∈ blocks O, w'.heap[b]? = w.heap[b]?)
    (hvp : ∀ t st off a', s = .vp t st off → e'.get t = some (.var st a') → (∃ a, e.get t = some (.var st a)) ∧ tmps'.getD t undef = tmps.getD t undef)
    (h : SlotR cid w M ρ e tmps s v O) : SlotR cid w' M' ρ' e' tmps' s v O := by
  cases s with
  | v a => exact RA_mono hx hρ _ _ _ hb h
  | var st a =>
    obtain ⟨b, cs, O', h1, h2, h3, rfl⟩ := h
    exact ⟨b, cs, O', h1, Cells_same h2 (hb b (by simp [blocks])), RBox_mono hx hρ (fun b' hm => hb b' (by simp only [blocks, List.map_cons, List.mem_cons]; exact .inr hm)) h3, rfl⟩
  | vp t st off =>
    obtain ⟨h0, b, h1, h2⟩ := h
    refine ⟨h0, b, h1, fun a' ha' => ?_⟩
    obtain ⟨⟨a, ha⟩, ht⟩ := hvp t st off a' rfl ha'
    exact ht.trans (h2 a ha)
  | ep x off =>
    obtain ⟨h0, b, o, vs, h1, h2, h3⟩ := h
    exact ⟨h0, b, o, vs, h1, RDc_mono hx _ _ h2, cellsAt_mono hx h3⟩
  | gp g off => exact h
  | siter s pos =>
    obtain ⟨r, bs, h1, h2, h3, rfl⟩ := h
    exact ⟨r, bs, h1, (hb r (by simp [blocks])).trans h2, h3, rfl⟩
  | undef => exact h
theorem HR_mono (hx : Ext w M w' M') (hρ : ∀ tg i b, ρ tg i = some b → ρ' tg i = some b) {o : HObj} {b : Nat} {O : Own}
    (hb : ∀ b ∈ blocks O, w'.heap[b]? = w.heap[b]?) (h : HR cid w M ρ o b O) : HR cid w' M' ρ' o b O := by
  cases o with
  | cells as =>
    obtain ⟨cs, O', h1, h2, h3, rfl⟩ := h
    exact ⟨cs, O', Cells_same h1 (hb b (by simp [blocks])), h2, RAs_mono hx hρ _ _ _ (fun b' hm => hb b' (by simp only [blocks, List.map_cons, List.mem_cons]; exact .inr hm)) h3, rfl⟩
  | map ks vs =>
    obtain ⟨es, O', h1, h2, h3, h4, rfl⟩ := h
    exact ⟨es, O', (hb b (by simp [blocks])).trans h1, h2, RDkeys_mono hx _ _ h3, RAs_mono hx hρ _ _ _ (fun b' hm => hb b' (by simp only [blocks, List.map_cons, List.mem_cons]; exact .inr hm)) h4, rfl⟩
end

/-- what stands about a run: which functions are which, what must not be touched, how memory was at its begin, the globals. -/
structure Gh where
  cid : FuncId → Option Nat
  M0 : MSet
  w0 : World
  S0 : Nat → Prop
  G : Nat → Option D
  nt : Nat

/-- a state lies in a frame and in memory. -/
structure SR (g : Gh) (e : Env) (h : Heap) (a : Act) (w : World) (ρ : Rho) (own : OwnF) : Prop where
  defers : a.defers = []
  size : a.tmps.size = g.nt
  slots : ∀ t s, e.get t = some s → t < g.nt ∧ SlotR g.cid w (MOf g.M0 own) ρ e a.tmps s (a.tmps.getD t undef) (own (.slot t))
  heap : ∀ tg i o, h.get tg i = some o → ∃ b, ρ tg i = some b ∧ HR g.cid w (MOf g.M0 own) ρ o b (own (.obj tg i))
  hdom : ∀ tg i, h.get tg i = none → ρ tg i = none
  nodup : ∀ k, (blocks (own k)).Nodup
  disj : ∀ k k' b, k ≠ k' → b ∈ blocks (own k) → b ∉ blocks (own k')
  lt : ∀ k b, b ∈ blocks (own k) → b < w.heap.size
  apart : ∀ k b l o, (b, l) ∈ own k → l ≤ o → ¬ g.M0 b o
  m0 : ∀ b o, g.M0 b o → b < w.heap.size
  ours : ∀ k b, b ∈ blocks (own k) → g.w0.heap.size ≤ b ∨ ¬ g.S0 b
  grow : g.w0.heap.size ≤ w.heap.size
  keep : ∀ b, b < g.w0.heap.size → g.S0 b → w.heap[b]? = g.w0.heap[b]?
  os : w.os = g.w0.os ∧ w.tape = g.w0.tape ∧ w.output = g.w0.output
  globs : ∀ n d, g.G n = some d → ∃ cs, RDc g.cid w (MOf g.M0 own) d cs ∧ cellsAt w (MOf g.M0 own) n 0 cs

/-- from state to state: some keys are told anew, all others stay. -/
theorem SR.trans {g : Gh} {e e' : Env} {h h' : Heap} {a : Act} {w w' : World} {ρ ρ' : Rho} {own own' : OwnF} (hs : SR g e h a w ρ own)
    (T : Key → Prop) (hρ : ∀ tg i b, ρ tg i = some b → ρ' tg i = some b)
    (hx : Ext w (MOf g.M0 own) w' (MOf g.M0 own'))
    (hown : ∀ k, ¬ T k → own' k = own k)
    (hmod : ∀ b, b < w.heap.size → (∀ k, T k → b ∉ blocks (own k)) → w'.heap[b]? = w.heap[b]?)
    (hos : w'.os = w.os ∧ w'.tape = w.tape ∧ w'.output = w.output)
    (he : ∀ t s, e'.get t = some s → ¬ T (.slot t) → e.get t = some s)
    (hv : ∀ t st x, e'.get t = some (.var st x) → T (.slot t) → ∃ x0, e.get t = some (.var st x0))
    (heT : ∀ t s, e'.get t = some s → T (.slot t) → t < g.nt ∧ SlotR g.cid w' (MOf g.M0 own') ρ' e' a.tmps s (a.tmps.getD t undef) (own' (.slot t)))
    (hh : ∀ tg i o, h'.get tg i = some o → ¬ T (.obj tg i) → h.get tg i = some o)
    (hhT : ∀ tg i o, h'.get tg i = some o → T (.obj tg i) → ∃ b, ρ' tg i = some b ∧ HR g.cid w' (MOf g.M0 own') ρ' o b (own' (.obj tg i)))
    (hdom : ∀ tg i, h'.get tg i = none → ρ' tg i = none)
    (nodup : ∀ k, T k → (blocks (own' k)).Nodup)
    (disj : ∀ k k' b, T k → T k' → k ≠ k' → b ∈ blocks (own' k) → b ∉ blocks (own' k'))
    (hnew : ∀ k b l, T k → (b, l) ∈ own' k → (∃ k' l', T k' ∧ (b, l') ∈ own k' ∧ l' ≤ l) ∨ (w.heap.size ≤ b ∧ b < w'.heap.size)) :
    SR g e' h' a w' ρ' own' := by
  have hsame : ∀ k, ¬ T k → ∀ b ∈ blocks (own' k), w'.heap[b]? = w.heap[b]? := by
    intro k hk b hb
    rw [hown k hk] at hb
    exact hmod b (hs.lt k b hb) fun k' hk' hb' => hs.disj k k' b (fun e => hk (e ▸ hk')) hb hb'
  have hnewb : ∀ k b, T k → b ∈ blocks (own' k) → (∃ k', T k' ∧ b ∈ blocks (own k')) ∨ (w.heap.size ≤ b ∧ b < w'.heap.size) := by
    intro k b hk hb
    obtain ⟨⟨b', l⟩, hm, rfl⟩ := List.mem_map.1 hb
    rcases hnew k b' l hk hm with ⟨k', l', h1, h2, _⟩ | h1
    · exact .inl ⟨k', h1, List.mem_map.2 ⟨_, h2, rfl⟩⟩
    · exact .inr h1
  refine
    { defers := hs.defers, size := hs.size
      slots := fun t s ht => ?_
      heap := fun tg i o ho => ?_
      hdom := hdom
      nodup := fun k => ?_
      disj := fun k k' b hne hb => ?_
      lt := fun k b hb => ?_
      apart := fun k b l o hm hl => ?_
      m0 := fun b o hm => Nat.lt_of_lt_of_le (hs.m0 b o hm) hx.size
      ours := fun k b hb => ?_
      grow := Nat.le_trans hs.grow hx.size
      keep := fun b hb hS => ?_
      os := ⟨hos.1.trans hs.os.1, hos.2.1.trans hs.os.2.1, hos.2.2.trans hs.os.2.2⟩
      globs := fun n d hn => ?_ }
  · by_cases hT : T (.slot t)
    · exact heT t s ht hT
    · obtain ⟨h1, h2⟩ := hs.slots t s (he t s ht hT)
      refine ⟨h1, ?_⟩
      rw [← hown _ hT] at h2
      refine SlotR_mono hx hρ (hsame _ hT) (fun t' st off a' hs' ht' => ⟨?_, rfl⟩) h2
      by_cases hT' : T (.slot t')
      · exact hv t' st a' ht' hT'
      · exact ⟨a', he t' _ ht' hT'⟩
  · by_cases hT : T (.obj tg i)
    · exact hhT tg i o ho hT
    · obtain ⟨b, h1, h2⟩ := hs.heap tg i o (hh tg i o ho hT)
      rw [← hown _ hT] at h2
      exact ⟨b, hρ _ _ _ h1, HR_mono hx hρ (hsame _ hT) h2⟩
  · by_cases hT : T k
    · exact nodup k hT
    · rw [hown k hT]; exact hs.nodup k
  · by_cases hT : T k <;> by_cases hT' : T k'
    · exact disj k k' b hT hT' hne hb
    · rw [hown k' hT']
      rcases hnewb k b hT hb with ⟨k2, h1, h2⟩ | ⟨h1, _⟩
      · exact hs.disj k2 k' b (fun e => hT' (e ▸ h1)) h2
      · exact fun hb' => absurd (hs.lt k' b hb') (by omega)
    · rw [hown k hT] at hb
      intro hb'
      rcases hnewb k' b hT' hb' with ⟨k2, h1, h2⟩ | ⟨h1, _⟩
      · exact hs.disj k2 k b (fun e => hT (e ▸ h1)) h2 hb
      · exact absurd (hs.lt k b hb) (by omega)
    · rw [hown k hT] at hb
      rw [hown k' hT']
      exact hs.disj k k' b hne hb
  · by_cases hT : T k
    · rcases hnewb k b hT hb with ⟨k2, _, h2⟩ | ⟨_, h2⟩
      · exact Nat.lt_of_lt_of_le (hs.lt k2 b h2) hx.size
      · exact h2
    · rw [hown k hT] at hb
      exact Nat.lt_of_lt_of_le (hs.lt k b hb) hx.size
  · by_cases hT : T k
    · rcases hnew k b l hT hm with ⟨k2, l', _, h2, h3⟩ | ⟨h1, _⟩
      · exact hs.apart k2 b l' o h2 (Nat.le_trans h3 hl)
      · exact fun hm0 => absurd (hs.m0 b o hm0) (by omega)
    · rw [hown k hT] at hm
      exact hs.apart k b l o hm hl
  · by_cases hT : T k
    · rcases hnewb k b hT hb with ⟨k2, _, h2⟩ | ⟨h1, _⟩
      · exact hs.ours k2 b h2
      · exact .inl (Nat.le_trans hs.grow h1)
    · rw [hown k hT] at hb
      exact hs.ours k b hb
  · refine (hmod b (Nat.lt_of_lt_of_le hb hs.grow) fun k _ hbk => ?_).trans (hs.keep b hb hS)
    rcases hs.ours k b hbk with h1 | h1
    · omega
    · exact h1 hS
  · obtain ⟨cs, h1, h2⟩ := hs.globs n d hn
    exact ⟨cs, RDc_mono hx _ _ h1, cellsAt_mono hx h2⟩

/-! ### environments -/
theorem Env.get_set (e : Env) (t : Nat) (s : Slot) (t' : Nat) : (e.set t s).get t' = if t = t' then some s else e.get t' := by
  induction e with
  | nil => simp [Env.set, Env.get]
  | cons p r ih =>
    obtain ⟨k, x⟩ := p
    simp only [Env.set]
    by_cases h1 : t < k
    · rw [if_pos h1]
      simp only [Env.get]
    · rw [if_neg h1]
      by_cases h2 : k = t
      · rw [if_pos h2]
        subst h2
        simp only [Env.get]
        by_cases h3 : k = t' <;> simp [h3]
      · rw [if_neg h2]
        simp only [Env.get, ih]
        by_cases h3 : k = t'
        · subst h3; rw [if_pos rfl, if_neg (fun e => h2 e.symm), if_pos rfl]
        · rw [if_neg h3]; by_cases h4 : t = t' <;> simp [h4, h3]
theorem getD_set (xs : Array Value) (i : Nat) (v : Value) (j : Nat) (hi : i < xs.size) : (xs.setIfInBounds i v).getD j undef = if i = j then v else xs.getD j undef := by
  simp only [Array.getD_eq_getD_getElem?, Array.getElem?_setIfInBounds]
  by_cases h : i = j
  · subst h; simp [hi]
  · simp [h]
end Go.Ab

/-
  A machine without memory (part 6): operands, copies and what is taken. Conditions: none (lemmas).
-/
namespace Go.Ab

/-! ### structs of cells -/
section
variable {cid : FuncId → Option Nat} {w : World} {M : MSet} {ρ : Rho}
theorem RV_one {x : D} {v : Value} (h : RV cid w M x v) (h1 : (AV.d x).one = true) : RDc cid w M x [v] ∧ x.isAgg = false ∧ v.cells = #[v] ∧ v.oneCell' = true := by
  have hx : x.isAgg = false := by cases x <;> simp_all [AV.one, D.isAgg]
  have h' : RV0 cid w M x v := (RV_fine (by cases x <;> simp_all [AV.one, D.fine])).1 h
  obtain ⟨a, b, c⟩ := RV0_one h' hx
  exact ⟨a, hx, b, c⟩
theorem RAs_length : ∀ (as : List AV) (vs : List Value) (O : Own), RAs cid w M ρ as vs O → vs.length = as.length
  | [], vs, O, h => by simp only [RAs] at h; simp [h.1]
  | a :: as, vs, O, h => by
    simp only [RAs] at h
    obtain ⟨v, r, O1, O2, rfl, _, h3, _⟩ := h
    simp [RAs_length as r O2 h3]
theorem allD_some : ∀ (as : List AV) (ds : List D), allD as = some ds → as = ds.map AV.d
  | [], ds, h => by simp [allD] at h; simp [← h]
  | a :: as, ds, h => by
    cases a with
    | d x =>
      simp only [allD] at h
      cases hr : allD as with
      | none => simp [hr] at h
      | some r =>
        simp only [hr, Option.some.injEq] at h
        subst h
        simp [allD_some as r hr]
    | _ => simp [allD] at h
theorem RAs_d : ∀ (ds : List D) (vs : List Value) (O : Own), (ds.map AV.d).all AV.one = true → RAs cid w M ρ (ds.map AV.d) vs O → O = [] ∧ RDall cid w M ds vs
  | [], vs, O, _, h => by simp only [List.map_nil, RAs] at h; exact ⟨h.2, by simp [RDall, h.1]⟩
  | d :: ds, vs, O, h1, h => by
    simp only [List.map_cons, RAs] at h
    simp only [List.map_cons, List.all_cons, Bool.and_eq_true] at h1
    obtain ⟨v, r, O1, O2, rfl, h2, h3, rfl⟩ := h
    obtain ⟨e1, e2⟩ := RAs_d ds r O2 h1.2 h3
    simp only [RA] at h2
    obtain ⟨a, b, _⟩ := RV_one h2.1 h1.1
    exact ⟨by simp [h2.2, e1], by simp only [RDall]; exact ⟨v, r, rfl, b, a, e2⟩⟩
theorem RAs_of_d : ∀ (ds : List D) (vs : List Value), RDall cid w M ds vs → RAs cid w M ρ (ds.map AV.d) vs [] ∧ (∀ d ∈ ds, d.isAgg = false)
  | [], vs, h => by simp only [RDall] at h; simp [RAs, h]
  | d :: ds, vs, h => by
    simp only [RDall] at h
    obtain ⟨v, r, rfl, h2, h3, h4⟩ := h
    obtain ⟨e1, e2⟩ := RAs_of_d ds r h4
    refine ⟨?_, by simpa using ⟨h2, e2⟩⟩
    simp only [List.map_cons, RAs]
    refine ⟨v, r, [], [], rfl, ?_, e1, rfl⟩
    simp only [RA, and_true]
    exact (RV_fine (by cases d <;> first | rfl | (simp [RDc] at h3; done))).2 (RV0_of_cell h3 h2)
theorem one_of_d {d : D} {vs : List Value} (h : RDc cid w M d vs) (h2 : d.isAgg = false) : (AV.d d).one = true := by
  cases d <;> first | rfl | (simp [RDc] at h; done) | (simp [D.isAgg] at h2; done)
theorem ones_of_d : ∀ (ds : List D) (vs : List Value), RDall cid w M ds vs → (ds.map AV.d).all AV.one = true
  | [], _, _ => rfl
  | d :: ds, vs, h => by
    simp only [RDall] at h
    obtain ⟨v, r, rfl, h2, h3, h4⟩ := h
    simp only [List.map_cons, List.all_cons, Bool.and_eq_true]
    exact ⟨one_of_d h3 h2, ones_of_d ds r h4⟩
theorem mkAgg_RA {as : List AV} {cs : Array Value} {O : Own} (h1 : as.all AV.one = true) (h : RAs cid w M ρ as cs.toList O) : RA cid w M ρ (mkAgg as) (.agg cs) O := by
  unfold mkAgg
  cases ha : allD as with
  | some ds =>
    obtain rfl := allD_some as ds ha
    obtain ⟨rfl, h2⟩ := RAs_d ds _ _ h1 h
    simp only [RA, and_true]
    exact (RV_fine rfl).2 ⟨by simpa [RDc, Value.cells] using h2, rfl⟩
  | none =>
    simp only [RA]
    exact ⟨cs, rfl, h1, h⟩
theorem mkAgg_isAgg (as : List AV) : (mkAgg as).isAgg = true := by
  unfold mkAgg; split <;> rfl
/-- a struct's cells. -/
theorem RA_cells {a : AV} {v : Value} {O : Own} (h : RA cid w M ρ a v O) (ha : a.isAgg = true) : ∃ cs, v = .agg cs ∧ a.cells.all AV.one = true ∧ RAs cid w M ρ a.cells cs.toList O := by
  cases a with
  | d x =>
    cases x <;> simp [AV.isAgg] at ha
    rename_i ds
    simp only [RA] at h
    obtain ⟨cs, rfl, h2⟩ := RV0_agg ((RV_fine rfl).1 h.1)
    refine ⟨cs, rfl, ones_of_d ds _ h2, ?_⟩
    rw [h.2]
    exact (RAs_of_d ds _ h2).1
  | agg as =>
    simp only [RA] at h
    obtain ⟨cs, h1, h2, h3⟩ := h
    exact ⟨cs, h1, h2, h3⟩
  | _ => simp [AV.isAgg] at ha
theorem RA_agg_of_cells {a : AV} {cs : Array Value} {O : Own} (ha : a.isAgg = true) (h1 : a.cells.all AV.one = true) (h : RAs cid w M ρ a.cells cs.toList O) : RA cid w M ρ a (.agg cs) O := by
  cases a with
  | d x =>
    cases x <;> simp [AV.isAgg] at ha
    rename_i ds
    obtain ⟨rfl, h2⟩ := RAs_d ds _ _ h1 h
    simp only [RA, and_true]
    exact (RV_fine rfl).2 ⟨by simpa [RDc, Value.cells] using h2, rfl⟩
  | agg as =>
    simp only [RA]
    exact ⟨cs, rfl, h1, h⟩
  | _ => simp [AV.isAgg] at ha
/-- a value that is no struct has one cell. -/
theorem RA_one {a : AV} {v : Value} {O : Own} (h : RA cid w M ρ a v O) (ha : a.one = true) : v.cells = #[v] ∧ v.oneCell' = true ∧ isAggV v = false := by
  cases a with
  | d x =>
    simp only [RA] at h
    obtain ⟨a, b, c, d⟩ := RV_one h.1 ha
    obtain ⟨v', e1, _, e3, _⟩ := RDc_one a b
    obtain rfl : v = v' := by simpa using e1
    exact ⟨c, d, e3⟩
  | acc sz xs => simp only [RA] at h; obtain ⟨_, _, _, rfl, _⟩ := h; exact ⟨rfl, rfl, rfl⟩
  | full sz xs => simp only [RA] at h; obtain ⟨_, _, rfl, _⟩ := h; exact ⟨rfl, rfl, rfl⟩
  | ptr tg i off => simp only [RA] at h; obtain ⟨_, _, rfl, _⟩ := h; exact ⟨rfl, rfl, rfl⟩
  | fn f caps => simp only [RA] at h; obtain ⟨_, _, _, rfl, _⟩ := h; exact ⟨rfl, rfl, rfl⟩
  | arr tg i off len => simp only [RA] at h; obtain ⟨_, _, rfl, _⟩ := h; exact ⟨rfl, rfl, rfl⟩
  | mapr tg i => simp only [RA] at h; obtain ⟨_, _, rfl, _⟩ := h; exact ⟨rfl, rfl, rfl⟩
  | agg as => simp [AV.one] at ha
  | tup as => simp [AV.one] at ha
theorem one_isAgg {a : AV} (h : a.one = true) : a.isAgg = false := by
  cases a with
  | d x => cases x <;> simp_all [AV.one, AV.isAgg]
  | _ => simp_all [AV.one, AV.isAgg]
/-- the cells of a value, whatever it is. -/
theorem RA_allCells {a : AV} {v : Value} {O : Own} (h : RA cid w M ρ a v O) (ha : a.isAgg = true ∨ a.one = true) : a.cells.all AV.one = true ∧ RAs cid w M ρ a.cells v.cells.toList O ∧ v.cells.toList.length = a.cells.length := by
  rcases ha with ha | ha
  · obtain ⟨cs, rfl, h1, h2⟩ := RA_cells h ha
    exact ⟨h1, h2, by simpa [Value.cells] using RAs_length _ _ _ h2⟩
  · obtain ⟨h1, _, _⟩ := RA_one h ha
    have hc : a.cells = [a] := by
      cases a with
      | d x => cases x <;> simp_all [AV.one, AV.cells]
      | _ => simp_all [AV.one, AV.cells]
    rw [hc, h1]
    exact ⟨by simp [ha], by simp only [RAs]; exact ⟨v, [], O, [], rfl, h, ⟨rfl, rfl⟩, by simp⟩, by simp⟩

/-! ### copies -/
theorem weaken_one : ∀ (a : AV), a.one = true → (weaken a).one = true := by
  intro a h
  cases a <;> simp_all [AV.one, weaken]
theorem RDs_tup : ∀ (ds : List D) (vs : List Value), RVs cid w M ds vs → RAs cid w M ρ (ds.map AV.d) vs []
  | [], vs, h => by simp only [RVs] at h; simp [RAs, h]
  | d :: ds, vs, h => by
    simp only [RVs] at h
    obtain ⟨v, r, rfl, h2, h3⟩ := h
    simp only [List.map_cons, RAs]
    refine ⟨v, r, [], [], rfl, ?_, RDs_tup ds r h3, rfl⟩
    simp only [RA, and_true]
    exact h2
mutual
theorem RA_weaken : ∀ (a : AV) (v : Value) (O : Own), RA cid w M ρ a v O → RA cid w M ρ (weaken a) v []
  | .d x, v, O, h => by simp only [RA, weaken] at h ⊢; exact ⟨h.1, trivial⟩
  | .acc sz xs, v, O, h => by
    simp only [RA] at h
    obtain ⟨a, len, cap, rfl, h2, _⟩ := h
    simp only [weaken, RA, and_true]
    exact (RV_fine rfl).2 (RV0_of_cell h2 rfl)
  | .full sz xs, v, O, h => by
    simp only [RA] at h
    obtain ⟨a, len, rfl, h2, _⟩ := h
    simp only [weaken, RA, and_true]
    exact (RV_fine rfl).2 (RV0_of_cell h2 rfl)
  | .ptr tg i off, v, O, h => by simp only [RA, weaken] at h ⊢; obtain ⟨b, h1, h2, _⟩ := h; exact ⟨b, h1, h2, trivial⟩
  | .fn f caps, v, O, h => by
    simp only [RA, weaken] at h ⊢
    obtain ⟨g, cs, h1, h2, h3, _⟩ := h
    exact ⟨g, cs, h1, h2, h3, trivial⟩
  | .arr tg i off len, v, O, h => by simp only [RA, weaken] at h ⊢; obtain ⟨b, cap, h1, h2, h3, _⟩ := h; exact ⟨b, cap, h1, h2, h3, trivial⟩
  | .agg as, v, O, h => by
    simp only [RA] at h
    obtain ⟨cs, rfl, h2, h3⟩ := h
    simp only [weaken]
    exact mkAgg_RA (weakens_one as h2) (RAs_weaken as _ O h3)
  | .tup as, v, O, h => by
    simp only [RA, weaken] at h ⊢
    obtain ⟨vs, h1, h3⟩ := h
    exact ⟨vs, h1, RAs_weaken as _ O h3⟩
  | .mapr tg i, v, O, h => by simp only [RA, weaken] at h ⊢; obtain ⟨b, h1, h2, _⟩ := h; exact ⟨b, h1, h2, trivial⟩
theorem RAs_weaken : ∀ (as : List AV) (vs : List Value) (O : Own), RAs cid w M ρ as vs O → RAs cid w M ρ (weaken.weakens as) vs []
  | [], vs, O, h => by simp only [RAs, weaken.weakens] at h ⊢; exact ⟨h.1, trivial⟩
  | a :: as, vs, O, h => by
    simp only [RAs, weaken.weakens] at h ⊢
    obtain ⟨v, r, O1, O2, h1, h2, h3, _⟩ := h
    exact ⟨v, r, [], [], h1, RA_weaken a v O1 h2, RAs_weaken as r O2 h3, rfl⟩
theorem weakens_one : ∀ (as : List AV), as.all AV.one = true → (weaken.weakens as).all AV.one = true
  | [], _ => rfl
  | a :: as, h => by
    simp only [List.all_cons, Bool.and_eq_true, weaken.weakens] at h ⊢
    exact ⟨weaken_one a h.1, weakens_one as h.2⟩
end
end
end Go.Ab

/-
  A machine without memory (part 7): how a state changes: what is taken, put, laid anew, written. Conditions: none (lemmas).
-/
namespace Go.Ab

section
variable {cid : FuncId → Option Nat} {w : World} {M : MSet} {ρ : Rho}
/-! ### constants -/
theorem cellAV_RA {v : Value} {a : AV} (h : cellAV v = some a) : RA cid w M ρ a v [] ∧ a.one = true := by
  unfold cellAV at h
  split at h <;> simp only [Option.some.injEq, reduceCtorEq] at h <;> subst h
  · exact ⟨by simp [RA, RV, RV0, RDc, Value.cells, D.isAgg, isAggV], rfl⟩
  · exact ⟨by simp [RA, RV, RV0, RDc, Value.cells, D.isAgg, isAggV], rfl⟩
  · exact ⟨by simp [RA, RV, RV0, RDc, Value.cells, D.isAgg, isAggV], rfl⟩
  · exact ⟨by simp [RA, RV, RV0, RDc, Value.cells, D.isAgg, isAggV], rfl⟩
  · exact ⟨by simp [RA, RV, RV0, RDc, Value.cells, D.isAgg, isAggV], rfl⟩
  · exact ⟨by simp only [RA]; exact ⟨none, 0, 0, rfl, by simp only [RDc]; exact ⟨none, 0, 0, rfl, rfl, Nat.le_refl _, fun h => absurd rfl h⟩, .inl (by simp)⟩, rfl⟩
  · exact ⟨by simp [RA, RV, RV0, RDc, Value.cells, D.isAgg, isAggV], rfl⟩
theorem cellsAV_RAs : ∀ (vs : List Value) (as : List AV), cellsAV vs = some as → RAs cid w M ρ as vs [] ∧ as.all AV.one = true
  | [], as, h => by simp only [cellsAV, Option.some.injEq] at h; subst h; simp [RAs]
  | v :: vs, as, h => by
    simp only [cellsAV] at h
    cases h1 : cellAV v with
    | none => simp [h1] at h
    | some a =>
      cases h2 : cellsAV vs with
      | none => simp [h1, h2] at h
      | some bs =>
        simp only [h1, h2, Option.some.injEq] at h
        subst h
        obtain ⟨e1, e2⟩ := cellsAV_RAs vs bs h2
        obtain ⟨e3, e4⟩ := cellAV_RA (cid := cid) (w := w) (M := M) (ρ := ρ) h1
        refine ⟨?_, by simp [e2, e4]⟩
        simp only [RAs]
        exact ⟨v, vs, [], [], rfl, e3, e1, rfl⟩
theorem constAV_RA {v : Value} {a : AV} (h : constAV v = some a) : RA cid w M ρ a v [] ∧ a.fine = true := by
  unfold constAV at h
  split at h
  · rename_i cs
    cases h1 : cellsAV cs.toList with
    | none => simp [h1] at h
    | some as =>
      simp only [h1, Option.map_some, Option.some.injEq] at h
      subst h
      obtain ⟨e1, e2⟩ := cellsAV_RAs (cid := cid) (w := w) (M := M) (ρ := ρ) _ _ h1
      refine ⟨mkAgg_RA e2 e1, ?_⟩
      unfold mkAgg; split <;> rfl
  · obtain ⟨e1, e2⟩ := cellAV_RA (cid := cid) (w := w) (M := M) (ρ := ρ) h
    refine ⟨e1, ?_⟩
    cases a with
    | d x => cases x <;> simp_all [AV.one, AV.fine]
    | _ => simp_all [AV.one, AV.fine]

/-! ### data -/
mutual
theorem RA_freeze : ∀ (a : AV) (v : Value) (O : Own) (d : D), RA cid w M ρ a v O → freeze a = some d → RA cid w M ρ (.d d) v []
  | .d x, v, O, d, h, hf => by simp only [freeze, Option.some.injEq] at hf; subst hf; simp only [RA] at h ⊢; exact ⟨h.1, trivial⟩
  | .acc sz xs, v, O, d, h, hf => by simp only [freeze, Option.some.injEq] at hf; subst hf; exact RA_weaken _ _ _ h
  | .full sz xs, v, O, d, h, hf => by simp only [freeze, Option.some.injEq] at hf; subst hf; exact RA_weaken _ _ _ h
  | .ptr tg i off, v, O, d, h, hf => by simp [freeze] at hf
  | .fn f caps, v, O, d, h, hf => by simp [freeze] at hf
  | .arr tg i off len, v, O, d, h, hf => by simp [freeze] at hf
  | .mapr tg i, v, O, d, h, hf => by simp [freeze] at hf
  | .agg as, v, O, d, h, hf => by
    simp only [freeze, Option.map_eq_some_iff] at hf
    obtain ⟨ds, hf, rfl⟩ := hf
    simp only [RA] at h
    obtain ⟨cs, rfl, h1, h2⟩ := h
    obtain ⟨e1, e2⟩ := RAs_freeze as cs.toList O ds h2 hf
    simp only [RA, and_true]
    obtain ⟨_, e3⟩ := RAs_d ds cs.toList [] (e2 h1) e1
    exact (RV_fine rfl).2 ⟨by simpa [RDc, Value.cells] using e3, rfl⟩
  | .tup as, v, O, d, h, hf => by
    simp only [freeze, Option.map_eq_some_iff] at hf
    obtain ⟨ds, hf, rfl⟩ := hf
    simp only [RA] at h
    obtain ⟨vs, rfl, h2⟩ := h
    obtain ⟨e1, e2⟩ := RAs_freeze as vs.toList O ds h2 hf
    simp only [RA, and_true]
    simp only [RV]
    exact ⟨vs, rfl, RAs_RVs as ds vs.toList O hf h2 e1⟩
theorem RAs_freeze : ∀ (as : List AV) (vs : List Value) (O : Own) (ds : List D), RAs cid w M ρ as vs O → freeze.freezes as = some ds → RAs cid w M ρ (ds.map .d) vs [] ∧ (as.all AV.one = true → (ds.map AV.d).all AV.one = true)
  | [], vs, O, ds, h, hf => by
    simp only [freeze.freezes, Option.some.injEq] at hf; subst hf
    simp only [RAs] at h
    simp [RAs, h.1]
  | a :: as, vs, O, ds, h, hf => by
    simp only [freeze.freezes] at hf
    cases h1 : freeze a with
    | none => simp [h1] at hf
    | some d =>
      cases h2 : freeze.freezes as with
      | none => simp [h1, h2] at hf
      | some es =>
        simp only [h1, h2, Option.some.injEq] at hf
        subst hf
        simp only [RAs] at h
        obtain ⟨v, r, O1, O2, rfl, h3, h4, _⟩ := h
        obtain ⟨e1, e2⟩ := RAs_freeze as r O2 es h4 h2
        have e3 := RA_freeze a v O1 d h3 h1
        refine ⟨by simp only [List.map_cons, RAs]; exact ⟨v, r, [], [], rfl, e3, e1, rfl⟩, fun ho => ?_⟩
        simp only [List.all_cons, Bool.and_eq_true, List.map_cons] at ho ⊢
        refine ⟨?_, e2 ho.2⟩
        have ho1 := ho.1
        cases a with
        | d x => simp only [freeze, Option.some.injEq] at h1; subst h1; exact ho1
        | acc sz xs => simp only [freeze, Option.some.injEq] at h1; subst h1; rfl
        | full sz xs => simp only [freeze, Option.some.injEq] at h1; subst h1; rfl
        | agg as => simp [AV.one] at ho1
        | tup as => simp [AV.one] at ho1
        | _ => simp [freeze] at h1
theorem RAs_RVs : ∀ (as : List AV) (ds : List D) (vs : List Value) (O : Own), freeze.freezes as = some ds → RAs cid w M ρ as vs O → RAs cid w M ρ (ds.map .d) vs [] → RVs cid w M ds vs
  | _, [], vs, O, _, _, h => by simp only [List.map_nil, RAs] at h; simp [RVs, h.1]
  | [], d :: ds, vs, O, hf, _, _ => by simp [freeze.freezes] at hf
  | a :: as, d :: ds, vs, O, hf, h0, h => by
    simp only [freeze.freezes] at hf
    cases h1 : freeze a with
    | none => simp [h1] at hf
    | some d' =>
      cases h2 : freeze.freezes as with
      | none => simp [h1, h2] at hf
      | some es =>
        simp only [h1, h2, Option.some.injEq, List.cons.injEq] at hf
        obtain ⟨rfl, rfl⟩ := hf
        simp only [RAs] at h0
        obtain ⟨v, r, O1, O2, rfl, h3, h4, _⟩ := h0
        simp only [List.map_cons, RAs, List.cons.injEq] at h
        obtain ⟨v', r', O1', O2', ⟨rfl, rfl⟩, h5, h6, h7⟩ := h
        obtain ⟨rfl, rfl⟩ : O1' = [] ∧ O2' = [] := by simpa using h7.symm
        simp only [RVs]
        refine ⟨v, r, rfl, ?_, RAs_RVs as es r O2 h2 h4 h6⟩
        simp only [RA, and_true] at h5
        exact h5
end
end

/-! ### what data a value is -/
section
variable {cid : FuncId → Option Nat} {w : World} {M : MSet}
theorem RV_cells1 {d : D} {v : Value} (h : RV cid w M d v) (h1 : d.fine = true) (h2 : d.isAgg = false) : RDc cid w M d [v] := (RV0_one ((RV_fine h1).1 h) h2).1
theorem RV_int {k : IntKind} {n : Int} {v : Value} (h : RV cid w M (.int k n) v) : v = .int k n := by simpa [RDc] using RV_cells1 h rfl rfl
theorem RV_bool {n : Bool} {v : Value} (h : RV cid w M (.bool n) v) : v = .bool n := by simpa [RDc] using RV_cells1 h rfl rfl
theorem RV_str {s : List UInt8} {v : Value} (h : RV cid w M (.str s) v) : ∃ bs : ByteArray, v = .string bs ∧ bs.data.toList = s := by simpa [RDc] using RV_cells1 h rfl rfl
theorem RV_nilp {v : Value} (h : RV cid w M .nilp v) : v = .pointer none := by simpa [RDc] using RV_cells1 h rfl rfl
theorem RV_nilf {v : Value} (h : RV cid w M .nilf v) : v = .nilFunc := by simpa [RDc] using RV_cells1 h rfl rfl
theorem RV_nilm {v : Value} (h : RV cid w M .nilm v) : v = .map none := by simpa [RDc] using RV_cells1 h rfl rfl
theorem RV_fnc {f : Nat} {v : Value} (h : RV cid w M (.fnc f) v) : ∃ F, cid F = some f ∧ v = .func (.func F) #[] #[] := by simpa [RDc] using RV_cells1 h rfl rfl
theorem RV_lst {xs : List D} {v : Value} (h : RV cid w M (.lst xs) v) : RDc cid w M (.lst xs) [v] := RV_cells1 h rfl rfl
theorem RV_mk {d : D} {v : Value} (h : RDc cid w M d [v]) (h2 : d.isAgg = false) : RV cid w M d v := by
  refine (RV_fine ?_).2 (RV0_of_cell h h2)
  cases d <;> first | rfl | (simp [RDc] at h; done)
end

/-! ### operands -/
def ownOf (own : OwnF) : Operand → Own
  | .tmp t => own (.slot t)
  | _ => []
section
variable {g : Gh} {e : Env} {h : Heap} {a : Act} {w : World} {ρ : Rho} {own : OwnF}
theorem SR.ev (hs : SR g e h a w ρ own) {x : Operand} {X : Opd} {s : Slot} (ho : opd g.cid x = some X) (he : evS e X = some s) :
    SlotR g.cid w (MOf g.M0 own) ρ e a.tmps s (a.eval x) (ownOf own x) := by
  cases x with
  | tmp t =>
    simp only [opd, Option.some.injEq] at ho; subst ho
    exact (hs.slots t s he).2
  | const v =>
    simp only [opd, Option.map_eq_some_iff] at ho
    obtain ⟨b, hb, rfl⟩ := ho
    simp only [evS, Option.some.injEq] at he; subst he
    exact (constAV_RA hb).1
  | func f =>
    simp only [opd, Option.map_eq_some_iff] at ho
    obtain ⟨b, hb, rfl⟩ := ho
    simp only [evS, Option.some.injEq] at he; subst he
    simp only [SlotR, RA, ownOf, and_true]
    exact (RV_fine rfl).2 ⟨by simp only [RDc, Value.cells, Act.eval]; exact ⟨f, hb, rfl⟩, rfl⟩
  | global n =>
    simp only [opd, Option.some.injEq] at ho; subst ho
    simp only [evS, Option.some.injEq] at he; subst he
    exact ⟨rfl, rfl⟩
theorem SR.evV (hs : SR g e h a w ρ own) {x : Operand} {X : Opd} {c : AV} (ho : opd g.cid x = some X) (he : evS e X = some (.v c)) :
    RA g.cid w (MOf g.M0 own) ρ c (a.eval x) (ownOf own x) := hs.ev ho he
theorem SR.evw (hs : SR g e h a w ρ own) {x : Operand} {X : Opd} {c : AV} (ho : opd g.cid x = some X) (he : evw e X = some c) :
    RA g.cid w (MOf g.M0 own) ρ c (a.eval x) [] := by
  unfold Ab.evw at he
  split at he <;> simp only [Option.some.injEq, reduceCtorEq] at he
  subst he
  exact RA_weaken _ _ _ (hs.evV ho ‹_›)
theorem SR.evD (hs : SR g e h a w ρ own) {x : Operand} {X : Opd} {d : D} (ho : opd g.cid x = some X) (he : evD e X = some d) :
    RV g.cid w (MOf g.M0 own) d (a.eval x) := by
  unfold Ab.evD at he
  split at he
  case h_2 => simp at he
  have := RA_freeze _ _ _ _ (hs.evV ho ‹_›) he
  simp only [RA, and_true] at this
  exact this
theorem SR.evI (hs : SR g e h a w ρ own) {x : Operand} {X : Opd} {n : Int} (ho : opd g.cid x = some X) (he : evI e X = some n) :
    ∃ k, a.eval x = .int k n := by
  unfold Ab.evI at he
  split at he <;> simp only [Option.some.injEq, reduceCtorEq] at he
  subst he
  have := hs.evV ho ‹_›
  simp only [RA] at this
  exact ⟨_, RV_int this.1⟩
theorem SR.evB (hs : SR g e h a w ρ own) {x : Operand} {X : Opd} {n : Bool} (ho : opd g.cid x = some X) (he : evB e X = some n) :
    a.eval x = .bool n := by
  unfold Ab.evB at he
  split at he <;> simp only [Option.some.injEq, reduceCtorEq] at he
  subst he
  have := hs.evV ho ‹_›
  simp only [RA] at this
  exact RV_bool this.1

/-! ### what the stamps are -/
def Slot.stamped (S : Nat → Prop) : Slot → Prop
  | .var st _ => S st
  | .vp _ st _ => S st
  | _ => True
def Stamps (e : Env) (S : Nat → Prop) : Prop := ∀ t s, e.get t = some s → s.stamped S
theorem Stamps.set {e : Env} {S : Nat → Prop} (h : Stamps e S) {t : Nat} {s : Slot} (hs : s.stamped S) : Stamps (e.set t s) S := by
  intro t' s' h'
  rw [Env.get_set] at h'
  split at h'
  · simp only [Option.some.injEq] at h'; exact h' ▸ hs
  · exact h t' s' h'
theorem Stamps.mono {e : Env} {S S' : Nat → Prop} (h : Stamps e S) (hS : ∀ n, S n → S' n) : Stamps e S' := by
  intro t s ht
  have := h t s ht
  cases s <;> first | exact hS _ this | trivial

/-! ### ownership that goes from key to key, memory as it is -/
theorem MOf_mono {M0 : MSet} {own own' : OwnF} (h : ∀ k b l, (b, l) ∈ own' k → ∃ k' l', (b, l') ∈ own k' ∧ l' ≤ l) : ∀ b o, MOf M0 own' b o → MOf M0 own b o := by
  rintro b o (h1 | ⟨k, l, h1, h2⟩)
  · exact .inl h1
  · obtain ⟨k', l', h3, h4⟩ := h k b l h1
    exact .inr ⟨k', l', h3, Nat.le_trans h4 h2⟩

/-- from state to state: one key and what is pending are told anew, all others stay. -/
theorem SR.trans2 {e' : Env} {h' : Heap} {w' : World} {ρ' : Rho} (hs : SR g e h a w ρ own) (k0 : Key) (hk0 : k0 ≠ .pend) (Ok Op : Own)
    (hρ : ∀ tg i b, ρ tg i = some b → ρ' tg i = some b)
    (hsize : w.heap.size ≤ w'.heap.size)
    (hmod : ∀ b, b < w.heap.size → b ∉ blocks (own k0) → b ∉ blocks (own .pend) → w'.heap[b]? = w.heap[b]?)
    (hcell : ∀ b l o v, ((b, l) ∈ own k0 ∨ (b, l) ∈ own .pend) → o < l → w.cell? ⟨b, o, none⟩ = some v → w'.cell? ⟨b, o, none⟩ = some v)
    (hmap : ∀ b l es c, ((b, l) ∈ own k0 ∨ (b, l) ∈ own .pend) → 0 < l → w.heap[b]? = some (.map es c) → w'.heap[b]? = some (.map es c))
    (hos : w'.os = w.os ∧ w'.tape = w.tape ∧ w'.output = w.output)
    (he : ∀ t s, e'.get t = some s → Key.slot t ≠ k0 → e.get t = some s)
    (hv : ∀ t st x, e'.get t = some (.var st x) → Key.slot t = k0 → ∃ x0, e.get t = some (.var st x0))
    (hh : ∀ tg i o, h'.get tg i = some o → Key.obj tg i ≠ k0 → h.get tg i = some o)
    (hdom : ∀ tg i, h'.get tg i = none → ρ' tg i = none)
    (hnd : (blocks (Ok ++ Op)).Nodup)
    (hmem : ∀ b l, (b, l) ∈ Ok ++ Op → (∃ l', (b, l') ∈ own k0 ++ own .pend ∧ l' ≤ l) ∨ (w.heap.size ≤ b ∧ b < w'.heap.size))
    (hT : Ext w (MOf g.M0 own) w' (MOf g.M0 ((own.upd k0 Ok).upd .pend Op)) →
      (∀ t s, e'.get t = some s → Key.slot t = k0 → t < g.nt ∧ SlotR g.cid w' (MOf g.M0 ((own.upd k0 Ok).upd .pend Op)) ρ' e' a.tmps s (a.tmps.getD t undef) Ok) ∧
      (∀ tg i o, h'.get tg i = some o → Key.obj tg i = k0 → ∃ b, ρ' tg i = some b ∧ HR g.cid w' (MOf g.M0 ((own.upd k0 Ok).upd .pend Op)) ρ' o b Ok)) :
    SR g e' h' a w' ρ' ((own.upd k0 Ok).upd .pend Op) ∧ Ext w (MOf g.M0 own) w' (MOf g.M0 ((own.upd k0 Ok).upd .pend Op)) := by
  have hap : ((own.upd k0 Ok).upd .pend Op) k0 = Ok := by rw [OwnF.upd_other _ _ hk0]; simp
  have happ : ((own.upd k0 Ok).upd .pend Op) .pend = Op := by simp
  have hoth : ∀ k, k ≠ k0 → k ≠ .pend → ((own.upd k0 Ok).upd .pend Op) k = own k := fun k h1 h2 => by rw [OwnF.upd_other _ _ h2, OwnF.upd_other _ _ h1]
  have hmem' : ∀ k b l, k = k0 ∨ k = .pend → (b, l) ∈ ((own.upd k0 Ok).upd .pend Op) k → (∃ l', (b, l') ∈ own k0 ++ own .pend ∧ l' ≤ l) ∨ (w.heap.size ≤ b ∧ b < w'.heap.size) := by
    rintro k b l (rfl | rfl) hb
    · rw [hap] at hb; exact hmem b l (List.mem_append.2 (.inl hb))
    · rw [happ] at hb; exact hmem b l (List.mem_append.2 (.inr hb))
  have hm : ∀ b o, b < w.heap.size → MOf g.M0 ((own.upd k0 Ok).upd .pend Op) b o → MOf g.M0 own b o := by
    rintro b o hb (h1 | ⟨k, l, h1, h2⟩)
    · exact .inl h1
    · refine .inr ?_
      by_cases hk : k = k0 ∨ k = .pend
      · rcases hmem' k b l hk h1 with ⟨l', h3, h4⟩ | ⟨h3, _⟩
        · rcases List.mem_append.1 h3 with h3 | h3
          · exact ⟨_, l', h3, Nat.le_trans h4 h2⟩
          · exact ⟨_, l', h3, Nat.le_trans h4 h2⟩
        · omega
      · rw [not_or] at hk
        rw [hoth k hk.1 hk.2] at h1
        exact ⟨k, l, h1, h2⟩
  have hmo : ∀ b, b < w.heap.size → (w'.heap[b]? = w.heap[b]?) ∨ (∃ l, (b, l) ∈ own k0 ∨ (b, l) ∈ own .pend) := by
    intro b hb
    by_cases h1 : b ∈ blocks (own k0)
    · obtain ⟨⟨b', l⟩, hm', rfl⟩ := List.mem_map.1 h1
      exact .inr ⟨l, .inl hm'⟩
    · by_cases h2 : b ∈ blocks (own .pend)
      · obtain ⟨⟨b', l⟩, hm', rfl⟩ := List.mem_map.1 h2
        exact .inr ⟨l, .inr hm'⟩
      · exact .inl (hmod b hb h1 h2)
  have hml : ∀ b l o, ((b, l) ∈ own k0 ∨ (b, l) ∈ own .pend) → ¬ MOf g.M0 own b o → o < l := by
    intro b l o h1 h2
    refine Nat.lt_of_not_le fun hle => h2 (.inr ?_)
    rcases h1 with h1 | h1
    · exact ⟨_, l, h1, hle⟩
    · exact ⟨_, l, h1, hle⟩
  have hx : Ext w (MOf g.M0 own) w' (MOf g.M0 ((own.upd k0 Ok).upd .pend Op)) :=
    { size := hsize
      m := fun b o hb hn hn' => hn (hm b o hb hn')
      cell := fun b o v hn hc => by
        rcases hmo b (lt_of_cell hc) with h1 | ⟨l, h1⟩
        · unfold World.cell? at hc ⊢; rw [h1]; exact hc
        · exact hcell b l o v h1 (hml b l o h1 hn) hc
      map := fun b es c hn hc => by
        rcases hmo b (Array.getElem?_eq_some_iff.1 hc).1 with h1 | ⟨l, h1⟩
        · rw [h1]; exact hc
        · exact hmap b l es c h1 (hml b l 0 h1 hn) hc }
  obtain ⟨hT1, hT2⟩ := hT hx
  simp only [blocks, List.map_append, List.nodup_append] at hnd
  refine ⟨hs.trans (fun k => k = k0 ∨ k = .pend) hρ hx (fun k hk => by rw [not_or] at hk; exact hoth k hk.1 hk.2)
    (fun b hb hk => hmod b hb (hk k0 (.inl rfl)) (hk .pend (.inr rfl))) hos ?_ ?_ ?_ ?_ ?_ hdom ?_ ?_ ?_, hx⟩
  · intro t s0 h1 h2
    rw [not_or] at h2
    exact he t s0 h1 h2.1
  · intro t st x h1 h2
    exact hv t st x h1 (h2.resolve_right (by simp))
  · intro t s0 h1 h2
    have h3 := h2.resolve_right (by simp)
    rw [h3, hap]
    exact hT1 t s0 h1 h3
  · intro tg i o h1 h2
    rw [not_or] at h2
    exact hh tg i o h1 h2.1
  · intro tg i o h1 h2
    have h3 := h2.resolve_right (by simp)
    rw [h3, hap]
    exact hT2 tg i o h1 h3
  · rintro k (rfl | rfl)
    · rw [hap]; exact hnd.1
    · rw [happ]; exact hnd.2.1
  · rintro k k' b (rfl | rfl) (rfl | rfl) hk hb
    · exact absurd rfl hk
    · rw [hap] at hb; rw [happ]
      exact fun h2 => hnd.2.2 b hb b h2 rfl
    · rw [happ] at hb; rw [hap]
      exact fun h2 => hnd.2.2 b h2 b hb rfl
    · exact absurd rfl hk
  · intro k b l hk hb
    rcases hmem' k b l hk hb with ⟨l', h1, h2⟩ | h1
    · rcases List.mem_append.1 h1 with h1 | h1
      · exact .inl ⟨k0, l', .inl rfl, h1, h2⟩
      · exact .inl ⟨.pend, l', .inr rfl, h1, h2⟩
    · exact .inr h1

/-- likewise, memory as it is: what one key owned is pending in part. -/
theorem SR.move {e' : Env} {h' : Heap} (hs : SR g e h a w ρ own) {k0 : Key} (hk0 : k0 ≠ .pend) {O O' : Own} (hO : (own k0).Perm (O ++ O'))
    (he : ∀ t s, e'.get t = some s → Key.slot t ≠ k0 → e.get t = some s)
    (hv : ∀ t st x, e'.get t = some (.var st x) → Key.slot t = k0 → ∃ x0, e.get t = some (.var st x0))
    (hh : ∀ tg i o, h'.get tg i = some o → Key.obj tg i ≠ k0 → h.get tg i = some o)
    (hdom : ∀ tg i, h'.get tg i = none → h.get tg i = none)
    (hT1 : ∀ t s, e'.get t = some s → Key.slot t = k0 → t < g.nt ∧ SlotR g.cid w (MOf g.M0 own) ρ e' a.tmps s (a.tmps.getD t undef) O')
    (hT2 : ∀ tg i o, h'.get tg i = some o → Key.obj tg i = k0 → ∃ b, ρ tg i = some b ∧ HR g.cid w (MOf g.M0 own) ρ o b O') :
    SR g e' h' a w ρ ((own.upd k0 O').upd .pend (own .pend ++ O)) ∧
      (∀ b o, MOf g.M0 ((own.upd k0 O').upd .pend (own .pend ++ O)) b o ↔ MOf g.M0 own b o) := by
  have hap : ((own.upd k0 O').upd .pend (own .pend ++ O)) k0 = O' := by rw [OwnF.upd_other _ _ hk0]; simp
  have hM : ∀ b o, MOf g.M0 ((own.upd k0 O').upd .pend (own .pend ++ O)) b o ↔ MOf g.M0 own b o := by
    intro b o
    constructor
    · rintro (h1 | ⟨k, l, h1, h2⟩)
      · exact .inl h1
      · refine .inr ?_
        by_cases hk : k = .pend
        · subst hk
          simp only [OwnF.upd_same, List.mem_append] at h1
          rcases h1 with h1 | h1
          · exact ⟨_, l, h1, h2⟩
          · exact ⟨k0, l, hO.mem_iff.2 (List.mem_append.2 (.inl h1)), h2⟩
        · rw [OwnF.upd_other _ _ hk] at h1
          by_cases hk2 : k = k0
          · subst hk2
            simp only [OwnF.upd_same] at h1
            exact ⟨k, l, hO.mem_iff.2 (List.mem_append.2 (.inr h1)), h2⟩
          · rw [OwnF.upd_other _ _ hk2] at h1
            exact ⟨k, l, h1, h2⟩
    · rintro (h1 | ⟨k, l, h1, h2⟩)
      · exact .inl h1
      · refine .inr ?_
        by_cases hk : k = .pend
        · subst hk
          exact ⟨.pend, l, by simp [h1], h2⟩
        · by_cases hk2 : k = k0
          · subst hk2
            rw [hO.mem_iff, List.mem_append] at h1
            rcases h1 with h1 | h1
            · exact ⟨.pend, l, by simp [h1], h2⟩
            · exact ⟨k, l, by rw [OwnF.upd_other _ _ hk]; simp [h1], h2⟩
          · exact ⟨k, l, by rw [OwnF.upd_other _ _ hk, OwnF.upd_other _ _ hk2]; exact h1, h2⟩
  refine ⟨?_, hM⟩
  have hnd : (blocks (O ++ O')).Nodup := ((hO.map Prod.fst).nodup_iff).1 (hs.nodup k0)
  have hsl : ∀ b, b ∈ blocks O ∨ b ∈ blocks O' → b ∈ blocks (own k0) := by
    intro b hb
    refine (hO.map Prod.fst).mem_iff.2 ?_
    simpa [blocks] using hb
  simp only [blocks, List.map_append, List.nodup_append] at hnd
  refine (hs.trans2 k0 hk0 O' (own .pend ++ O) (fun _ _ _ h => h) (Nat.le_refl _) (fun _ _ _ _ => rfl) (fun _ _ _ _ _ _ h => h) (fun _ _ _ _ _ _ h => h) ⟨rfl, rfl, rfl⟩ he hv hh
    (fun tg i hn => hs.hdom tg i (hdom tg i hn)) ?_ ?_ ?_).1
  · simp only [blocks, List.map_append, List.nodup_append, List.mem_append]
    refine ⟨hnd.2.1, ⟨hs.nodup .pend, hnd.1, ?_⟩, ?_⟩
    · intro x hx y hy hxy
      subst hxy
      exact hs.disj .pend k0 x (fun e => hk0 e.symm) hx (hsl x (.inl hy))
    · rintro x hx y (hy | hy) hxy
      · subst hxy
        exact hs.disj k0 .pend x hk0 (hsl x (.inr hx)) hy
      · exact hnd.2.2 y hy x hx hxy.symm
  · intro b l hb
    refine .inl ⟨l, ?_, Nat.le_refl _⟩
    simp only [List.mem_append] at hb ⊢
    rcases hb with hb | hb | hb
    · exact .inl (hO.mem_iff.2 (List.mem_append.2 (.inr hb)))
    · exact .inr hb
    · exact .inl (hO.mem_iff.2 (List.mem_append.2 (.inl hb)))
  · intro hx
    refine ⟨fun t s h1 h2 => ?_, fun tg i o h1 h2 => ?_⟩
    · obtain ⟨h3, h4⟩ := hT1 t s h1 h2
      exact ⟨h3, SlotR_mono hx (fun _ _ _ h => h) (fun _ _ => rfl) (fun t2 st off a' _ h => ⟨⟨a', h⟩, rfl⟩) h4⟩
    · obtain ⟨b, h3, h4⟩ := hT2 tg i o h1 h2
      exact ⟨b, h3, HR_mono hx (fun _ _ _ h => h) (fun _ _ => rfl) h4⟩

/-- what is taken: one slot is told anew, what it owned is pending. -/
theorem SR.take (hs : SR g e h a w ρ own) {t : Nat} {s s' : Slot} {O O' : Own} (ht : e.get t = some s) (hO : (own (.slot t)).Perm (O ++ O'))
    (hv : ∀ st x, s' = .var st x → ∃ x0, s = .var st x0)
    (hs' : SlotR g.cid w (MOf g.M0 own) ρ (e.set t s') a.tmps s' (a.tmps.getD t undef) O') :
    SR g (e.set t s') h a w ρ ((own.upd (.slot t) O').upd .pend (own .pend ++ O)) ∧
      (∀ b o, MOf g.M0 ((own.upd (.slot t) O').upd .pend (own .pend ++ O)) b o ↔ MOf g.M0 own b o) := by
  refine hs.move (by simp) hO ?_ ?_ (fun _ _ _ h _ => h) (fun _ _ h => h) ?_ ?_
  · intro t' s0 h1 h2
    rw [Env.get_set] at h1
    split at h1
    · subst_vars; simp at h2
    · exact h1
  · intro t' st x h1 h2
    have : t' = t := by simpa using h2
    subst this
    rw [Env.get_set, if_pos rfl] at h1
    obtain ⟨x0, hx0⟩ := hv st x (by simpa using h1)
    exact ⟨x0, hx0 ▸ ht⟩
  · intro t' s0 h1 h2
    have : t' = t := by simpa using h2
    subst this
    rw [Env.get_set, if_pos rfl] at h1
    simp only [Option.some.injEq] at h1; subst h1
    exact ⟨(hs.slots _ _ ht).1, hs'⟩
  · intro tg i o _ h2; simp at h2

theorem Ext.iff {w : World} {M M' : MSet} (h : ∀ b o, M' b o ↔ M b o) : Ext w M w M' := Ext.shrink fun b o => (h b o).1
theorem Ext.trans {w w1 w2 : World} {M M1 M2 : MSet} (h1 : Ext w M w1 M1) (h2 : Ext w1 M1 w2 M2) : Ext w M w2 M2 where
  size := Nat.le_trans h1.size h2.size
  m b o hb hm := h2.m b o (Nat.lt_of_lt_of_le hb h1.size) (h1.m b o hb hm)
  cell b o v hm hc := h2.cell b o v (h1.m b o (lt_of_cell hc) hm) (h1.cell b o v hm hc)
  map b es c hm hb := h2.map b es c (h1.m b 0 (Array.getElem?_eq_some_iff.1 hb).1 hm) (h1.map b es c hm hb)

theorem SR.evt (hs : SR g e h a w ρ own) {x : Operand} {X : Opd} {c : AV} {e' : Env} (ho : opd g.cid x = some X) (he : evt e X = some (c, e')) :
    ∃ own' O, SR g e' h a w ρ own' ∧ RA g.cid w (MOf g.M0 own') ρ c (a.eval x) O ∧ own' .pend = own .pend ++ O ∧ (∀ b o, MOf g.M0 own' b o ↔ MOf g.M0 own b o) ∧ (∀ S, Stamps e S → Stamps e' S) := by
  cases X with
  | t n =>
    simp only [Ab.evt] at he
    split at he <;> simp only [Option.some.injEq, Prod.mk.injEq, reduceCtorEq] at he
    rename_i c0 hget
    obtain ⟨rfl, rfl⟩ := he
    have hx : x = .tmp n := by
      cases x <;> simp_all [opd]
    subst hx
    have hra := (hs.slots n _ hget).2
    obtain ⟨h1, h2⟩ := hs.take (s' := .v (weaken c0)) (O := own (.slot n)) (O' := []) hget (by rw [List.append_nil]) (by simp) (RA_weaken _ _ _ hra)
    refine ⟨_, own (.slot n), h1, RA_mono (Ext.iff h2) (fun _ _ _ h => h) _ _ _ (fun _ _ => rfl) hra, by simp, h2, fun S hS => hS.set trivial⟩
  | _ =>
    simp only [Ab.evt] at he
    split at he <;> simp only [Option.some.injEq, Prod.mk.injEq, reduceCtorEq] at he
    obtain ⟨rfl, rfl⟩ := he
    have h0 : ownOf own x = [] := by cases x <;> simp_all [opd, ownOf]
    exact ⟨own, [], hs, h0 ▸ hs.evV ho ‹_›, by simp, fun _ _ => Iff.rfl, fun _ h => h⟩
theorem opds_cons {cid : FuncId → Option Nat} {x : Operand} {xs : List Operand} {Xs : List Opd} (h : opds cid (x :: xs) = some Xs) : ∃ X Ys, Xs = X :: Ys ∧ opd cid x = some X ∧ opds cid xs = some Ys := by
  simp only [opds] at h
  cases h1 : opd cid x with
  | none => simp [h1] at h
  | some X =>
    cases h2 : opds cid xs with
    | none => simp [h1, h2] at h
    | some Ys => exact ⟨X, Ys, by simp_all, rfl, rfl⟩
theorem SR.evts {x : List Operand} : ∀ {e : Env} {own : OwnF} {X : List Opd} {cs : List AV} {e' : Env}, SR g e h a w ρ own → opds g.cid x = some X → evts e X = some (cs, e') →
    ∃ own' O, SR g e' h a w ρ own' ∧ RAs g.cid w (MOf g.M0 own') ρ cs (x.map a.eval) O ∧ own' .pend = own .pend ++ O ∧ (∀ b o, MOf g.M0 own' b o ↔ MOf g.M0 own b o) ∧ (∀ S, Stamps e S → Stamps e' S) := by
  induction x with
  | nil =>
    intro e own X cs e' hs ho he
    simp only [opds, Option.some.injEq] at ho; subst ho
    simp only [Ab.evts, Option.some.injEq, Prod.mk.injEq] at he
    obtain ⟨rfl, rfl⟩ := he
    exact ⟨own, [], hs, by simp [RAs], by simp, fun _ _ => Iff.rfl, fun _ h => h⟩
  | cons x xs ih =>
    intro e own X cs e' hs ho he
    obtain ⟨X, Ys, rfl, h1, h2⟩ := opds_cons ho
    simp only [Ab.evts] at he
    split at he <;> (try simp only [reduceCtorEq] at he)
    rename_i c1 e1 h3
    split at he <;> simp only [Option.some.injEq, Prod.mk.injEq, reduceCtorEq] at he
    rename_i cs2 e2 h4
    obtain ⟨rfl, rfl⟩ := he
    obtain ⟨own1, O1, a1, a2, a3, a4, a5⟩ := hs.evt h1 h3
    obtain ⟨own2, O2, b1, b2, b3, b4, b5⟩ := ih a1 h2 h4
    refine ⟨own2, O1 ++ O2, b1, ?_, by rw [b3, a3, List.append_assoc], fun b o => (b4 b o).trans (a4 b o), fun S hS => b5 S (a5 S hS)⟩
    simp only [List.map_cons, RAs]
    exact ⟨_, _, O1, O2, rfl, RA_mono (Ext.iff b4) (fun _ _ _ h => h) _ _ _ (fun _ _ => rfl) a2, b2, rfl⟩
theorem SR.evws (hs : SR g e h a w ρ own) : ∀ {x : List Operand} {X : List Opd} {cs : List AV}, opds g.cid x = some X → evws e X = some cs → RAs g.cid w (MOf g.M0 own) ρ cs (x.map a.eval) []
  | [], X, cs, ho, he => by
    simp only [opds, Option.some.injEq] at ho; subst ho
    simp only [Ab.evws, Option.some.injEq] at he; subst he
    simp [RAs]
  | x :: xs, X, cs, ho, he => by
    obtain ⟨X, Ys, rfl, h1, h2⟩ := opds_cons ho
    simp only [Ab.evws] at he
    split at he <;> (try simp only [reduceCtorEq] at he)
    rename_i c1 h3
    split at he <;> simp only [Option.some.injEq, reduceCtorEq] at he
    rename_i cs2 h4
    subst he
    simp only [List.map_cons, RAs]
    exact ⟨_, _, [], [], rfl, hs.evw h1 h3, hs.evws h2 h4, rfl⟩
theorem SR.evDs (hs : SR g e h a w ρ own) : ∀ {x : List Operand} {X : List Opd} {ds : List D}, opds g.cid x = some X → evDs e X = some ds → RAs g.cid w (MOf g.M0 own) ρ (ds.map .d) (x.map a.eval) []
  | [], X, cs, ho, he => by
    simp only [opds, Option.some.injEq] at ho; subst ho
    simp only [Ab.evDs, Option.some.injEq] at he; subst he
    simp [RAs]
  | x :: xs, X, cs, ho, he => by
    obtain ⟨X, Ys, rfl, h1, h2⟩ := opds_cons ho
    simp only [Ab.evDs] at he
    split at he <;> (try simp only [reduceCtorEq] at he)
    rename_i c1 h3
    split at he <;> simp only [Option.some.injEq, reduceCtorEq] at he
    rename_i cs2 h4
    subst he
    simp only [List.map_cons, RAs]
    exact ⟨_, _, [], [], rfl, by simp only [RA, and_true]; exact hs.evD h1 h3, hs.evDs h2 h4, rfl⟩
end
end Go.Ab

/-
  A machine without memory (part 8): what comes of an operation is put; memory grows. Conditions: none (lemmas).
-/
namespace Go.Ab

def Env.del (e : Env) (d : Nat) : Env := e.filter fun p => p.1 != d
theorem Env.get_del (e : Env) (d t : Nat) : (e.del d).get t = if t = d then none else e.get t := by
  induction e with
  | nil => simp [Env.del, Env.get]
  | cons p r ih =>
    obtain ⟨k, x⟩ := p
    simp only [Env.del, List.filter_cons] at ih ⊢
    by_cases h1 : k = d
    · subst h1
      simp only [bne_self_eq_false, Bool.false_eq_true, if_false, ih, Env.get]
      by_cases h2 : t = k
      · simp [h2]
      · rw [if_neg h2, if_neg h2, if_neg (fun e => h2 e.symm)]
    · have : (k != d) = true := by simpa using h1
      simp only [this, if_true, Env.get, ih]
      by_cases h2 : k = t
      · subst h2; simp [h1]
      · simp [h2]

section
variable {g : Gh} {e : Env} {h : Heap} {a : Act} {w : World} {ρ : Rho} {own : OwnF}
theorem SR.setTmp (hs : SR g e h a w ρ own) {d : Nat} (hd : d < g.nt) {s : Slot} {v : Value} (hnone : e.get d = none)
    (hs' : SlotR g.cid w (MOf g.M0 own) ρ e a.tmps s v (own (.slot d)))
    (hfr : ∀ st x, s = .var st x → ∀ t off, e.get t ≠ some (.vp d st off)) :
    SR g (e.set d s) h (a.put (some d) v) w ρ own := by
  have htm : ∀ t, t ≠ d → (a.tmps.setIfInBounds d v).getD t undef = a.tmps.getD t undef := fun t ht => by
    rw [getD_set _ _ _ _ (hs.size ▸ hd), if_neg (fun e => ht e.symm)]
  refine
    { defers := hs.defers, size := by simp [Act.put, hs.size], heap := hs.heap, hdom := hs.hdom, nodup := hs.nodup, disj := hs.disj, lt := hs.lt, apart := hs.apart,
      m0 := hs.m0, ours := hs.ours, grow := hs.grow, keep := hs.keep, os := hs.os, globs := hs.globs
      slots := fun t s0 ht => ?_ }
  have hx : Ext w (MOf g.M0 own) w (MOf g.M0 own) := Ext.refl _ _
  rw [Env.get_set] at ht
  by_cases htd : d = t
  · rw [if_pos htd] at ht
    simp only [Option.some.injEq] at ht
    subst htd; subst ht
    refine ⟨hd, ?_⟩
    have : (a.put (some d) v).tmps.getD d undef = v := by
      simp only [Act.put]; rw [getD_set _ _ _ _ (hs.size ▸ hd), if_pos rfl]
    rw [this]
    refine SlotR_mono hx (fun _ _ _ h => h) (fun _ _ => rfl) (fun t2 st off a' h1 h2 => ?_) hs'
    rw [Env.get_set] at h2
    by_cases h3 : d = t2
    · rw [if_pos h3] at h2
      simp only [Option.some.injEq] at h2
      rw [h1] at h2; simp at h2
    · rw [if_neg h3] at h2
      exact ⟨⟨a', h2⟩, htm t2 (fun e => h3 e.symm)⟩
  · rw [if_neg htd] at ht
    obtain ⟨h1, h2⟩ := hs.slots t s0 ht
    refine ⟨h1, ?_⟩
    have : (a.put (some d) v).tmps.getD t undef = a.tmps.getD t undef := htm t (fun e => htd e.symm)
    rw [this]
    refine SlotR_mono hx (fun _ _ _ h => h) (fun _ _ => rfl) (fun t2 st off a' k1 k2 => ?_) h2
    rw [Env.get_set] at k2
    by_cases h3 : d = t2
    · rw [if_pos h3] at k2
      simp only [Option.some.injEq] at k2
      subst h3; subst k1
      exact absurd ht (hfr st a' k2 t off)
    · rw [if_neg h3] at k2
      exact ⟨⟨a', k2⟩, htm t2 (fun e => h3 e.symm)⟩

/-- what comes of an operation is put. -/
theorem SR.put (hs : SR g e h a w ρ own) {d : Nat} (hd : d < g.nt) {s : Slot} {v : Value}
    (hs' : SlotR g.cid w (MOf g.M0 own) ρ e a.tmps s v (own .pend))
    (hfr : ∀ st x, s = .var st x → ∀ t off, e.get t ≠ some (.vp d st off)) :
    SR g (e.set d s) h (a.put (some d) v) w ρ ((own.upd (.slot d) (own .pend)).upd .pend []) ∧
      Ext w (MOf g.M0 own) w (MOf g.M0 ((own.upd (.slot d) (own .pend)).upd .pend [])) := by
  obtain ⟨h1, h2⟩ := hs.trans2 (e' := e.del d) (h' := h) (.slot d) (by simp) (own .pend) [] (fun _ _ _ h => h) (Nat.le_refl _) (fun _ _ _ _ => rfl) (fun _ _ _ _ _ _ h => h) (fun _ _ _ _ _ _ h => h) ⟨rfl, rfl, rfl⟩
    (fun t s ht _ => by rw [Env.get_del] at ht; split at ht <;> simp_all)
    (fun t st x ht hk => by rw [Env.get_del] at ht; simp at hk; simp [hk] at ht)
    (fun _ _ _ h _ => h) hs.hdom (by rw [List.append_nil]; exact hs.nodup .pend)
    (fun b l hb => .inl ⟨l, by rw [List.append_nil] at hb; exact List.mem_append.2 (.inr hb), Nat.le_refl _⟩)
    (fun _ => ⟨fun t s ht hk => by rw [Env.get_del] at ht; simp at hk; simp [hk] at ht, fun tg i o _ hk => by simp at hk⟩)
  refine ⟨?_, h2⟩
  have hdel : ∀ t s0, (e.del d).get t = some s0 → e.get t = some s0 := fun t s0 ht => by
    rw [Env.get_del] at ht; split at ht
    · simp at ht
    · exact ht
  have h3 := h1.setTmp (s := s) (v := v) hd (by rw [Env.get_del]; simp) (by
    rw [OwnF.upd_other _ _ (by simp), OwnF.upd_same]
    exact SlotR_mono h2 (fun _ _ _ h => h) (fun _ _ => rfl) (fun t2 st off a' _ h => ⟨⟨a', hdel _ _ h⟩, rfl⟩) hs')
    (fun st x hx t off ht => hfr st x hx t off (hdel _ _ ht))
  refine
    { defers := h3.defers, size := h3.size, heap := h3.heap, hdom := h3.hdom, nodup := h3.nodup, disj := h3.disj, lt := h3.lt, apart := h3.apart,
      m0 := h3.m0, ours := h3.ours, grow := h3.grow, keep := h3.keep, os := h3.os, globs := h3.globs
      slots := fun t s0 ht => ?_ }
  have hsame : ∀ t, ((e.del d).set d s).get t = (e.set d s).get t := fun t => by
    rw [Env.get_set, Env.get_set, Env.get_del]
    by_cases h4 : d = t
    · simp [h4]
    · rw [if_neg h4, if_neg h4, if_neg (fun e => h4 e.symm)]
  obtain ⟨h4, h5⟩ := h3.slots t s0 (by rw [hsame]; exact ht)
  exact ⟨h4, SlotR_mono (Ext.refl _ _) (fun _ _ _ h => h) (fun _ _ => rfl) (fun t2 st off a' _ h => ⟨⟨a', by rw [hsame]; exact h⟩, rfl⟩) h5⟩

/-- what is pending is dropped. -/
theorem SR.drop (hs : SR g e h a w ρ own) : SR g e h a w ρ (own.upd .pend []) ∧ Ext w (MOf g.M0 own) w (MOf g.M0 (own.upd .pend [])) := by
  have hx : Ext w (MOf g.M0 own) w (MOf g.M0 (own.upd .pend [])) := Ext.shrink (MOf_mono fun k b l hb => by
    by_cases hk : k = .pend
    · subst hk; simp at hb
    · rw [OwnF.upd_other _ _ hk] at hb; exact ⟨k, l, hb, Nat.le_refl _⟩)
  refine ⟨hs.trans (fun k => k = .pend) (fun _ _ _ h => h) hx (fun k hk => OwnF.upd_other _ _ hk) (fun _ _ _ => rfl) ⟨rfl, rfl, rfl⟩ (fun _ _ h _ => h) (fun _ _ _ _ h => by simp at h) (fun _ _ _ h => by simp at h) (fun _ _ _ h _ => h) (fun _ _ _ _ h => by simp at h) hs.hdom ?_ ?_ ?_, hx⟩
  · rintro k rfl; simp [blocks]
  · rintro k k' b rfl rfl hk; exact absurd rfl hk
  · rintro k b l rfl hb; simp at hb

/-- of what is pending a part is kept. -/
theorem SR.pendSub (hs : SR g e h a w ρ own) {O : Own} (hO : ∀ p, p ∈ O → p ∈ own .pend) (hnd : (blocks O).Nodup) : SR g e h a w ρ (own.upd .pend O) ∧ Ext w (MOf g.M0 own) w (MOf g.M0 (own.upd .pend O)) := by
  have hx : Ext w (MOf g.M0 own) w (MOf g.M0 (own.upd .pend O)) := Ext.shrink (MOf_mono fun k b l hb => by
    by_cases hk : k = .pend
    · subst hk; simp only [OwnF.upd_same] at hb; exact ⟨_, l, hO _ hb, Nat.le_refl _⟩
    · rw [OwnF.upd_other _ _ hk] at hb; exact ⟨k, l, hb, Nat.le_refl _⟩)
  refine ⟨hs.trans (fun k => k = .pend) (fun _ _ _ h => h) hx (fun k hk => OwnF.upd_other _ _ hk) (fun _ _ _ => rfl) ⟨rfl, rfl, rfl⟩ (fun _ _ h _ => h) (fun _ _ _ _ h => by simp at h) (fun _ _ _ h => by simp at h) (fun _ _ _ h _ => h) (fun _ _ _ _ h => by simp at h) hs.hdom ?_ ?_ ?_, hx⟩
  · rintro k rfl; simpa using hnd
  · rintro k k' b rfl rfl hk; exact absurd rfl hk
  · rintro k b l rfl hb
    simp only [OwnF.upd_same] at hb
    exact .inl ⟨_, l, rfl, hO _ hb, Nat.le_refl _⟩

/-! ### memory grows -/
structure Pushed (w : World) (o : Obj) (w' : World) : Prop where
  heap : w'.heap = w.heap.push o
  os : w'.os = w.os
  tape : w'.tape = w.tape
  output : w'.output = w.output
theorem Pushed.old {w w' : World} {o : Obj} (hp : Pushed w o w') {b : Nat} (hb : b < w.heap.size) : w'.heap[b]? = w.heap[b]? := by
  rw [hp.heap, Array.getElem?_push, if_neg (by omega)]
theorem Pushed.new {w w' : World} {o : Obj} (hp : Pushed w o w') : w'.heap[w.heap.size]? = some o := by
  rw [hp.heap]; simp
theorem Pushed.size {w w' : World} {o : Obj} (hp : Pushed w o w') : w'.heap.size = w.heap.size + 1 := by rw [hp.heap]; simp

/-- a block is laid: it is pending, from a place on, or not at all. -/
theorem SR.alloc (hs : SR g e h a w ρ own) {o : Obj} {w' : World} (hp : Pushed w o w') {O : Own} (hO : O = [] ∨ ∃ l, O = [(w.heap.size, l)]) :
    SR g e h a w' ρ (own.upd .pend (O ++ own .pend)) ∧ Ext w (MOf g.M0 own) w' (MOf g.M0 (own.upd .pend (O ++ own .pend))) := by
  have hOb : ∀ b l, (b, l) ∈ O → b = w.heap.size := by
    rcases hO with rfl | ⟨l, rfl⟩ <;> simp_all
  have hm : ∀ b o, b < w.heap.size → MOf g.M0 (own.upd .pend (O ++ own .pend)) b o → MOf g.M0 own b o := by
    rintro b o hb (h1 | ⟨k, l, h1, h2⟩)
    · exact .inl h1
    · by_cases hk : k = .pend
      · subst hk
        simp only [OwnF.upd_same, List.mem_append] at h1
        rcases h1 with h1 | h1
        · have := hOb _ _ h1; omega
        · exact .inr ⟨_, l, h1, h2⟩
      · rw [OwnF.upd_other _ _ hk] at h1
        exact .inr ⟨k, l, h1, h2⟩
  have hx : Ext w (MOf g.M0 own) w' (MOf g.M0 (own.upd .pend (O ++ own .pend))) :=
    { size := by have := hp.size; omega
      m := fun b o hb hn hn' => hn (hm b o hb hn')
      cell := fun b o v _ hc => by
        unfold World.cell? at hc ⊢; rw [hp.old (lt_of_cell hc)]; exact hc
      map := fun b es c _ hc => by rw [hp.old (Array.getElem?_eq_some_iff.1 hc).1]; exact hc }
  refine ⟨hs.trans (fun k => k = .pend) (fun _ _ _ h => h) hx (fun k hk => OwnF.upd_other _ _ hk) (fun b hb _ => hp.old hb) ⟨hp.os, hp.tape, hp.output⟩ (fun _ _ h _ => h) (fun _ _ _ _ h => by simp at h) (fun _ _ _ h => by simp at h) (fun _ _ _ h _ => h) (fun _ _ _ _ h => by simp at h) hs.hdom ?_ ?_ ?_, hx⟩
  · rintro k rfl
    simp only [OwnF.upd_same, blocks, List.map_append, List.nodup_append]
    refine ⟨by rcases hO with rfl | ⟨l, rfl⟩ <;> simp, hs.nodup .pend, ?_⟩
    intro x hx y hy hxy
    obtain ⟨⟨b, l⟩, h1, rfl⟩ := List.mem_map.1 hx
    have := hOb b l h1
    have := hs.lt .pend y hy
    simp only at hxy; omega
  · rintro k k' b rfl rfl hk; exact absurd rfl hk
  · rintro k b l rfl hb
    simp only [OwnF.upd_same, List.mem_append] at hb
    rcases hb with hb | hb
    · have := hOb b l hb; have := hp.size; exact .inr ⟨by omega, by omega⟩
    · exact .inl ⟨_, l, rfl, hb, Nat.le_refl _⟩

/-! ### what an operation comes to -/
def Post (g : Gh) (a : Act) (w : World) (ρ : Rho) (own : OwnF) (e' : Env) (h' : Heap) (s : Slot) (v : Value) (w' : World) : Prop :=
  ∃ ρ' own', SR g e' h' a w' ρ' own' ∧ SlotR g.cid w' (MOf g.M0 own') ρ' e' a.tmps s v (own' .pend) ∧ (∀ tg i b, ρ tg i = some b → ρ' tg i = some b) ∧ Ext w (MOf g.M0 own) w' (MOf g.M0 own')
def Goes (P : Program) (o : Oper) (a : Act) (w : World) (R : Value → World → Prop) : Prop :=
  match (execOp a.eval o).run P w with
  | .ok (.value v) w' => R v w'
  | .ok .skip w' => R undef w'
  | .ok (.enter f args) w' => Calls P f args w' fun e w'' => match e with
    | .returned v => R v w''
    | _ => False
  | _ => False
theorem Goes.value {P : Program} {o : Oper} {a : Act} {w w' : World} {v : Value} {R : Value → World → Prop} (hr : (execOp a.eval o).run P w = .ok (.value v) w') (h : R v w') : Goes P o a w R := by
  unfold Goes; rw [hr]; exact h
theorem Goes.skip {P : Program} {o : Oper} {a : Act} {w w' : World} {R : Value → World → Prop} (hr : (execOp a.eval o).run P w = .ok .skip w') (h : R undef w') : Goes P o a w R := by
  unfold Goes; rw [hr]; exact h
theorem Goes.mono {P : Program} {o : Oper} {a : Act} {w : World} {R R' : Value → World → Prop} (h : Goes P o a w R) (hR : ∀ v w', R v w' → R' v w') : Goes P o a w R' := by
  unfold Goes at h ⊢
  split at h
  · exact hR _ _ h
  · exact hR _ _ h
  · exact h.mono fun e w' hh => by
      cases e with
      | returned v => exact hR _ _ hh
      | _ => exact hh
  · exact h.elim

theorem Post.same (hs : SR g e h a w ρ own) {s : Slot} {v : Value} (hp : own .pend = []) (hr : SlotR g.cid w (MOf g.M0 own) ρ e a.tmps s v []) : Post g a w ρ own e h s v w :=
  ⟨ρ, own, hs, hp ▸ hr, fun _ _ _ h => h, Ext.refl _ _⟩
theorem Post.data (hs : SR g e h a w ρ own) {d : D} {v : Value} (hp : own .pend = []) (hr : RV g.cid w (MOf g.M0 own) d v) : Post g a w ρ own e h (vD d) v w :=
  Post.same hs hp (by simp only [vD, SlotR, RA, and_true]; exact hr)
/-- a new block of data. -/
theorem Post.new (hs : SR g e h a w ρ own) {o : Obj} {w' : World} (hp : Pushed w o w') (hpend : own .pend = []) {s : Slot} {v : Value} {O : Own} (hO : O = [] ∨ ∃ l, O = [(w.heap.size, l)])
    (hr : ∀ own', SR g e h a w' ρ own' → Ext w (MOf g.M0 own) w' (MOf g.M0 own') → (∀ b o, MOf g.M0 own' b o → b = w.heap.size → ∃ l, (w.heap.size, l) ∈ O ∧ l ≤ o) → SlotR g.cid w' (MOf g.M0 own') ρ e a.tmps s v O) :
    Post g a w ρ own e h s v w' := by
  obtain ⟨h1, h2⟩ := hs.alloc hp hO
  rw [hpend, List.append_nil] at h1 h2
  refine ⟨ρ, _, h1, ?_, fun _ _ _ h => h, h2⟩
  rw [OwnF.upd_same]
  refine hr _ h1 h2 ?_
  rintro b o (h3 | ⟨k, l, h3, h4⟩) hb
  · have := hs.m0 b o h3; omega
  · by_cases hk : k = .pend
    · subst hk
      simp only [OwnF.upd_same] at h3
      exact ⟨l, hb ▸ h3, h4⟩
    · rw [OwnF.upd_other _ _ hk] at h3
      have := hs.lt k b (List.mem_map.2 ⟨_, h3, rfl⟩)
      omega
theorem Post.from {own1 : OwnF} {s : Slot} {v : Value} {w' : World} {e' : Env} {h' : Heap} (hM : ∀ b o, MOf g.M0 own1 b o ↔ MOf g.M0 own b o) (hp : Post g a w ρ own1 e' h' s v w') : Post g a w ρ own e' h' s v w' := by
  obtain ⟨ρ', own', h1, h2, h3, h4⟩ := hp
  exact ⟨ρ', own', h1, h2, h3, (Ext.iff hM).trans h4⟩
end
end Go.Ab
