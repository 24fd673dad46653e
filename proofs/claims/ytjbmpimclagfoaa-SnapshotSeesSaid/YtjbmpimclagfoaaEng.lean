/-
  An evaluator for the part of the model's language that these statements reach: it runs a function's code over symbolic values (its integers and booleans may be any terms), and its soundness is proved in the text that follows it.
-/
import Derived.WalkKit
import Derived.Orders
import Derived.LoopN
namespace Go.Eng

abbrev Nm := Nat × Nat

def nmb (a b : Nm) : Bool := cond (Nat.beq a.1 b.1) (Nat.beq a.2 b.2) false

/-- A value of one cell. 'ptr x i j': cell j of element i of block x ('dy': the index may be no literal). 'whole x': the slice that is all of block x. -/
inductive Cell where
  | int (k : IntKind) (n : Int)
  | bool (b : Bool)
  | ptr (x : Nm) (i j : Nat) (dy : Bool)
  | nilp
  | whole (x : Nm)
  | sl (x : Nm) (off len : Nat)
  | nils
  | fn (f : FuncId)

/-- A plain cell. -/
inductive PC where
  | int (k : IntKind) (n : Int)
  | bool (b : Bool)

def PC.c : PC → Cell
  | .int k n => .int k n
  | .bool b => .bool b

def PC.v : PC → Value
  | .int k n => .int k n
  | .bool b => .bool b

def Cell.pc : Cell → Option PC
  | .int k n => some (.int k n)
  | .bool b => some (.bool b)
  | _ => none

def pcs : List Cell → Option (List PC)
  | [] => some []
  | c :: r => match c.pc with
    | some p => (match pcs r with
      | some l => some (p :: l)
      | none => none)
    | none => none

inductive V1 where
  | one (c : Cell)
  | agg (cs : List Cell)

inductive SV where
  | v (x : V1)
  | tup (l : List V1)

/-- A column of a table: a cell of each row. -/
inductive Col where
  | int (k : IntKind) (f : Nat → Int)
  | bool (f : Nat → Bool)

def Col.at : Col → Nat → PC
  | .int k f, i => .int k (f i)
  | .bool f, i => .bool (f i)

def rowOf : List Col → Nat → List PC
  | [], _ => []
  | c :: r, i => c.at i :: rowOf r i

/-- Elements: written out, or by columns (their number and what they hold may be any terms). -/
inductive Els where
  | lit (l : List (List PC))
  | tab (n : Nat) (cols : List Col)
  | sp (ks : List (Option IntKind)) (l : List (List PC))

def Els.list : Els → List (List PC)
  | .lit l => l
  | .tab n cols => (List.range n).map (rowOf cols)
  | .sp _ l => l

def Els.len : Els → Nat
  | .lit l => l.length
  | .tab n _ => n
  | .sp _ l => l.length

def PC.kind : PC → Option IntKind
  | .int k _ => some k
  | .bool _ => none

def kindsP : List PC → List (Option IntKind)
  | [] => []
  | p :: r => p.kind :: kindsP r

def kindsC : List Col → List (Option IntKind)
  | [] => []
  | .int k _ :: r => some k :: kindsC r
  | .bool _ :: r => none :: kindsC r

def kindOK : Option IntKind → PC → Bool
  | none, .bool _ => true
  | some k, .int k' _ => if k = k' then true else false
  | _, _ => false

def kindsOK : List (Option IntKind) → List PC → Bool
  | [], [] => true
  | k :: ks, p :: ps => cond (kindOK k p) (kindsOK ks ps) false
  | _, _ => false

/-- A block: one variable, or a row of elements ('own': the call's own, it may be written). -/
inductive Blk where
  | var (cs : List Cell)
  | arr (own : Bool) (sz : Nat) (els : Els)

abbrev Up := Nm × Option Blk

structure St where
  tmps : List (Nat × Option SV)
  store : List Up
  n : Nat

def getT : List (Nat × Option SV) → Nat → Option SV
  | [], _ => none
  | (d, v) :: r, t => cond (Nat.beq d t) v (getT r t)

def find : List Up → Nm → Option (Option Blk)
  | [], _ => none
  | (y, b) :: r, x => cond (nmb y x) (some b) (find r x)

def live (st : List Up) (x : Nm) : Option Blk :=
  match find st x with
  | some (some b) => some b
  | _ => none

def cellOf : Value → Option Cell
  | .int k n => some (.int k n)
  | .bool b => some (.bool b)
  | .slice none 0 0 => some .nils
  | .pointer none => some .nilp
  | _ => none

def St.ev (s : St) : Operand → Option SV
  | .tmp t => getT s.tmps t
  | .const v => match cellOf v with
    | some c => some (.v (.one c))
    | none => none
  | .func f => some (.v (.one (.fn f)))
  | .global _ => none

def St.ev1 (s : St) (x : Operand) : Option V1 :=
  match s.ev x with
  | some (.v y) => some y
  | _ => none

def St.evc (s : St) (x : Operand) : Option Cell :=
  match s.ev x with
  | some (.v (.one c)) => some c
  | _ => none

/-! ### The types -/

inductive TD where
  | bool
  | int (k : IntKind)
  | slice (e : TypeId)
  | struct (fs : List (TypeId × Nat))
  | array (n : Nat) (e : TypeId)
  | other

structure TE where
  d : TD
  size : Nat
  bytes : Nat
  zero : List Cell
  plain : Bool

/-- The types; and the slots of the index operations whose index is no literal. -/
structure TT where
  l : List (Nat × TE)
  dyn : List Nat

def ttL : List (Nat × TE) → TypeId → Option TE
  | [], _ => none
  | (u, e) :: r, t => cond (Nat.beq u t) (some e) (ttL r t)

def tt (T : TT) (t : TypeId) : Option TE := ttL T.l t

def inL (d : Nat) : List Nat → Bool
  | [] => false
  | e :: r => cond (Nat.beq e d) true (inL d r)

def TE.agg (e : TE) : Bool :=
  match e.d with
  | .struct _ => true
  | .array _ _ => true
  | _ => false

/-! ### Cells -/

def takeN {α : Type} : Nat → List α → Option (List α)
  | 0, _ => some []
  | _ + 1, [] => none
  | n + 1, a :: r => match takeN n r with
    | some l => some (a :: l)
    | none => none

def dropN {α : Type} : Nat → List α → List α
  | 0, l => l
  | _ + 1, [] => []
  | n + 1, _ :: r => dropN n r

def nth {α : Type} : List α → Nat → Option α
  | [], _ => none
  | a :: _, 0 => some a
  | _ :: r, j + 1 => nth r j

def V1.cells : V1 → List Cell
  | .one c => [c]
  | .agg cs => cs

/-- All integers of one kind. -/
def ints : List Cell → Option (IntKind × List Int)
  | [] => none
  | [.int k n] => some (k, [n])
  | .int k n :: r => match ints r with
    | some (k', ns) => if k = k' then some (k, n :: ns) else none
    | none => none
  | _ => none

def intAt : List Int → Nat → Int
  | [], _ => 0
  | n :: _, 0 => n
  | _ :: r, j + 1 => intAt r j

/-- Cell j of a list, where j may be no literal: where all are integers of one kind the answer is one, too. -/
def selC : List Cell → Nat → Option Cell
  | [], _ => none
  | c :: r, j => match ints (c :: r) with
    | some (k, ns) => some (.int k (intAt ns j))
    | none => match j with
      | 0 => some c
      | j + 1 => selC r j

def mixC (b : Bool) (new old : Cell) : Cell :=
  match old, new with
  | .int k m, .int k' n => if k = k' then .int k (cond b n m) else cond b new old
  | .bool m, .bool n => .bool (cond b n m)
  | _, _ => cond b new old

def setC : List Cell → Nat → Cell → Nat → List Cell
  | [], _, _, _ => []
  | a :: r, j, c, i => mixC (Nat.beq j i) c a :: setC r j c (i + 1)

/-- 'cs' laid over 'l' from place j on. -/
def put {α : Type} : List α → Nat → List α → Option (List α)
  | l, 0, [] => some l
  | [], 0, _ :: _ => none
  | _ :: l, 0, c :: cs => match put l 0 cs with
    | some r => some (c :: r)
    | none => none
  | [], _ + 1, _ => none
  | a :: l, j + 1, cs => match put l j cs with
    | some r => some (a :: r)
    | none => none

def len : List Cell → Nat
  | [] => 0
  | _ :: r => len r + 1

/-- Cell j of each row, where all are integers of one kind. -/
def colOf (j : Nat) : List (List PC) → Option (IntKind × List Int)
  | [] => none
  | e :: r => match nth e j with
    | some (.int k n) => (match r with
      | [] => some (k, [n])
      | _ :: _ => match colOf j r with
        | some (k', ns) => if k = k' then some (k, n :: ns) else none
        | none => none)
    | _ => none

def colsOf (l : List (List PC)) : Nat → Nat → Option (List (IntKind × List Int))
  | _, 0 => some []
  | j, n + 1 => match colOf j l, colsOf l (j + 1) n with
    | some c, some r => some (c :: r)
    | _, _ => none

def look0 (l : List (List PC)) (i j : Nat) : Option (Bool × PC) :=
  match l[i]? with
  | some e => (match nth e j with
    | some p => some (true, p)
    | none => none)
  | none => none

/-- Row i is there, and has cells of these kinds. -/
def rowIs (ks : List (Option IntKind)) (l : List (List PC)) (i : Nat) : Bool :=
  match l[i]? with
  | some r => kindsOK ks r
  | none => false

def intCell (l : List (List PC)) (i j : Nat) : Int :=
  match l[i]? with
  | some r => (match nth r j with
    | some (.int _ n) => n
    | _ => 0)
  | none => 0

def boolCell (l : List (List PC)) (i j : Nat) : Bool :=
  match l[i]? with
  | some r => (match nth r j with
    | some (.bool b) => b
    | _ => false)
  | none => false

def cellAt (l : List (List PC)) (i j : Nat) : Option IntKind → PC
  | some k => .int k (intCell l i j)
  | none => .bool (boolCell l i j)

def cellsAt (l : List (List PC)) (i : Nat) : Nat → List (Option IntKind) → List PC
  | _, [] => []
  | j, k :: r => cellAt l i j k :: cellsAt l i (j + 1) r

/-- One cell of one row: with what must hold. -/
def Els.look : Els → Nat → Nat → Bool → Option (Bool × PC)
  | .tab n cols, i, j, _ => match nth cols j with
    | some c => some (Nat.blt i n, c.at i)
    | none => none
  | .sp ks l, i, j, _ => match nth ks j with
    | some k => some (rowIs ks l i, cellAt l i j k)
    | none => none
  | .lit l, i, j, dy => cond dy (match colOf j l with
    | some (k, ns) => some (Nat.blt i l.length, .int k (intAt ns i))
    | none => look0 l i j) (look0 l i j)

def lookN0 (l : List (List PC)) (i j n : Nat) : Option (Bool × List PC) :=
  match l[i]? with
  | some e => (match takeN n (dropN j e) with
    | some ps => some (true, ps)
    | none => none)
  | none => none

def colsAt (i : Nat) : List (IntKind × List Int) → List PC
  | [] => []
  | (k, ns) :: r => .int k (intAt ns i) :: colsAt i r

/-- Cells of one row. -/
def Els.lookN : Els → Nat → Nat → Nat → Bool → Option (Bool × List PC)
  | .tab m cols, i, j, n, _ => match takeN n (dropN j cols) with
    | some cs => some (Nat.blt i m, rowOf cs i)
    | none => none
  | .sp ks l, i, j, n, _ => match takeN n (dropN j ks) with
    | some ks' => some (rowIs ks l i, cellsAt l i j ks')
    | none => none
  | .lit l, i, j, n, dy => cond dy (match colsOf l j n with
    | some cs => some (Nat.blt i l.length, colsAt i cs)
    | none => lookN0 l i j n) (lookN0 l i j n)

def mixP (b : Bool) : PC → PC → PC
  | .int k n, .int k' m => if k = k' then .int k' (cond b n m) else cond b (.int k n) (.int k' m)
  | .bool n, .bool m => .bool (cond b n m)
  | x, y => cond b x y

def mixPs (b : Bool) : List PC → List PC → List PC
  | x :: r, y :: q => mixP b x y :: mixPs b r q
  | _, _ => []

/-- Row i laid over, where i may be no literal. -/
def setRows (i j : Nat) (ps : List PC) : Nat → List (List PC) → Option (List (List PC))
  | _, [] => some []
  | t, e :: r => match put e j ps, setRows i j ps (t + 1) r with
    | some e', some r' => some (mixPs (Nat.beq t i) e' e :: r')
    | _, _ => none

def Els.put (i j : Nat) (ps : List PC) (dy : Bool) : Els → Option (Bool × Els)
  | .tab _ _ => none
  | .sp ks l => cond (Nat.beq j 0) (cond (kindsOK ks ps) (some (rowIs ks l i, .sp ks (l.set i ps))) none) none
  | .lit l => cond dy (match setRows i j ps 0 l with
    | some l' => some (Nat.blt i l.length, .lit l')
    | none => none) (match l[i]? with
    | some e => (match Eng.put e j ps with
      | some e' => some (true, .lit (l.set i e'))
      | none => none)
    | none => none)

def shift (off : Nat) : List Col → List Col
  | [] => []
  | .int k f :: r => .int k (fun i => f (off + i)) :: shift off r
  | .bool f :: r => .bool (fun i => f (off + i)) :: shift off r

/-- A part of the rows. -/
def Els.cut (off ln : Nat) : Els → Els
  | .lit l => .lit ((l.drop off).take ln)
  | .sp ks l => .sp ks ((l.drop off).take ln)
  | .tab _ cols => .tab ln (shift off cols)

def Els.app : Els → Els → Els
  | .lit a, .lit b => .lit (a ++ b)
  | .sp ks a, b => .sp ks (a ++ b.list)
  | a, .sp ks b => .sp ks (a.list ++ b)
  | .tab n cols, b => .sp (kindsC cols) ((List.range n).map (rowOf cols) ++ b.list)
  | .lit a, .tab n cols => .sp (kindsC cols) (a ++ (List.range n).map (rowOf cols))

/-- The rows of a literal list, from here on as a list of which only the rows' kinds are known. -/
def Els.toSp : Els → Els
  | .lit (r :: l) => .sp (kindsP r) (r :: l)
  | E => E

def toSpS : List Up → List Up
  | [] => []
  | (x, some (.arr o z E)) :: r => (x, some (.arr o z E.toSp)) :: toSpS r
  | p :: r => p :: toSpS r

/-- One cell of a block: with what must hold. -/
def rd1 : Blk → Nat → Nat → Bool → Option (Bool × Cell)
  | .var cs, i, j, dy => cond (Nat.beq i 0)
      (cond dy (match selC cs j with
        | some c => some (Nat.blt j (len cs), c)
        | none => none)
      (match nth cs j with
        | some c => some (true, c)
        | none => none)) none
  | .arr _ _ E, i, j, dy => match E.look i j dy with
    | some (o, p) => some (o, p.c)
    | none => none

def mapC : List PC → List Cell
  | [] => []
  | p :: r => p.c :: mapC r

def rdN : Blk → Nat → Nat → Nat → Bool → Option (Bool × List Cell)
  | .var cs, i, j, n, _ => cond (Nat.beq i 0) (match takeN n (dropN j cs) with
    | some l => some (true, l)
    | none => none) none
  | .arr _ _ E, i, j, n, dy => match E.lookN i j n dy with
    | some (o, l) => some (o, mapC l)
    | none => none

def wrB : Blk → Nat → Nat → Bool → List Cell → Option (Bool × Blk)
  | .var l, i, j, dy, cs => cond (Nat.beq i 0)
      (cond dy (match cs with
        | [c] => some (Nat.blt j (len l), .var (setC l j c 0))
        | _ => none)
      (match Eng.put l j cs with
        | some l' => some (true, .var l')
        | none => none)) none
  | .arr true sz E, i, j, dy, cs => match pcs cs with
    | none => none
    | some ps => match E.put i j ps dy with
      | none => none
      | some (o, E') => some (o, .arr true sz E')
  | .arr false _ _, _, _, _, _ => none

/-! ### The operations -/

abbrev R := Option (Bool × SV × List Up)

def ok1 (c : Cell) : R := some (true, .v (.one c), [])

def eqCells : List Cell → List Cell → Option Bool
  | [], [] => some true
  | .int k a :: r, .int k' b :: r' => if k = k' then (match eqCells r r' with
      | some t => some (cond (a == b) t false)
      | none => none) else none
  | .bool a :: r, .bool b :: r' => match eqCells r r' with
      | some t => some (cond (a == b) t false)
      | none => none
  | _, _ => none

def kindsEq : List Cell → List Cell → Bool
  | [], [] => true
  | .int k _ :: r, .int k' _ :: r' => if k = k' then kindsEq r r' else false
  | .bool _ :: r, .bool _ :: r' => kindsEq r r'
  | _, _ => false

def eBin (T : TT) (op : BinOp) (t : TypeId) : V1 → V1 → R
  | .one (.int k a), .one (.int k' b) =>
    match op with
    | .shl => some (decide (0 ≤ b), .v (.one (.int k (k.wrap (a * 2 ^ (min b.toNat k.bits))))), [])
    | .shr => some (decide (0 ≤ b), .v (.one (.int k (a.fdiv (2 ^ (min b.toNat k.bits))))), [])
    | op => if k = k' then
      (match op with
      | .add => ok1 (.int k (k.wrap (a + b)))
      | .sub => ok1 (.int k (k.wrap (a - b)))
      | .mul => ok1 (.int k (k.wrap (a * b)))
      | .quo => some (!decide (b = 0), .v (.one (.int k (k.wrap (a.tdiv b)))), [])
      | .rem => some (!decide (b = 0), .v (.one (.int k (a.tmod b))), [])
      | .and => ok1 (.int k (bits .and k a b))
      | .or => ok1 (.int k (bits .or k a b))
      | .xor => ok1 (.int k (bits .xor k a b))
      | .andNot => ok1 (.int k (bits .andNot k a b))
      | .eql => ok1 (.bool (a == b))
      | .neq => ok1 (.bool (a != b))
      | .lss => ok1 (.bool (decide (a < b)))
      | .leq => ok1 (.bool (decide (a ≤ b)))
      | .gtr => ok1 (.bool (decide (a > b)))
      | .geq => ok1 (.bool (decide (a ≥ b)))
      | _ => none) else none
  | .one (.bool a), .one (.bool b) => match tt T t with
    | some { d := .bool, .. } => (match op with
      | .eql => ok1 (.bool (a == b))
      | .neq => ok1 (.bool (!(a == b)))
      | _ => none)
    | _ => none
  | .agg xs, .agg ys => match tt T t with
    | some e => cond e.plain (cond (kindsEq e.zero xs) (match eqCells xs ys with
      | some b => (match op with
        | .eql => ok1 (.bool b)
        | .neq => ok1 (.bool (!b))
        | _ => none)
      | none => none) none) none
    | none => none
  | _, _ => none

def eUn (op : UnOp) : Cell → R
  | .bool b => match op with
    | .not => ok1 (.bool (!b))
    | _ => none
  | .int k n => match op with
    | .neg => ok1 (.int k (k.wrap (0 - n)))
    | .xor => ok1 (.int k (bits .xor k (if k.signed then -1 else k.max) n))
    | _ => none
  | _ => none

def eConv (T : TT) (src dst : TypeId) : Cell → R
  | .int _ n => match tt T src, tt T dst with
    | some _, some { d := .int k, .. } => ok1 (.int k (k.wrap n))
    | _, _ => none
  | _ => none

/-- The cells of the parts laid over the zero value. -/
def fillA (place : Nat → Option (Nat × Nat)) (s : St) : List Cell → List (Nat × Operand) → Option (List Cell)
  | cs, [] => some cs
  | cs, (i, x) :: r => match place i, s.ev1 x with
    | some (off, size), some v => cond (Nat.beq (len v.cells) size) (match put cs off v.cells with
      | some cs' => fillA place s cs' r
      | none => none) none
    | _, _ => none

def placeS (T : TT) (fs : List (TypeId × Nat)) (i : Nat) : Option (Nat × Nat) :=
  match nth fs i with
  | some (ty, off) => (match tt T ty with
    | some f => some (off, f.size)
    | none => none)
  | none => none

def placeA (size i : Nat) : Option (Nat × Nat) := some (i * size, size)

def eBuild (T : TT) (s : St) (t : TypeId) (parts : Array (Nat × Operand)) : R :=
  match tt T t with
  | some e => (match e.d with
    | .struct fs => match fillA (placeS T fs) s e.zero parts.toList with
      | some cs => some (true, .v (.agg cs), [])
      | none => none
    | .array _ el => (match tt T el with
      | some f => (match fillA (placeA f.size) s e.zero parts.toList with
        | some cs => some (true, .v (.agg cs), [])
        | none => none)
      | none => none)
    | _ => none)
  | none => none

def rep {α : Type} (a : α) : Nat → List α
  | 0 => []
  | n + 1 => a :: rep a n

def fillS (size : Nat) (s : St) : List (List PC) → List (Nat × Operand) → Option (List (List PC))
  | els, [] => some els
  | els, (i, x) :: r => match s.ev1 x with
    | some v => (match pcs v.cells with
      | some ps => cond (Nat.beq (len v.cells) size) (match put els i [ps] with
        | some els' => fillS size s els' r
        | none => none) none
      | none => none)
    | none => none

def eBuildSlice (T : TT) (s : St) (d : Nat) (t : TypeId) (n : Nat) (parts : Array (Nat × Operand)) : R :=
  match tt T t with
  | some { d := .slice el, .. } => (match tt T el with
    | some f => (match pcs f.zero with
      | some z => cond (Nat.beq (len f.zero) f.size) (cond (Nat.ble (n * f.size) 16777216) (match fillS f.size s (rep z n) parts.toList with
        | some els => some (true, .v (.one (.whole (d, 0))), [((d, 0), some (.arr true f.size (.lit els)))])
        | none => none) none) none
      | none => none)
    | none => none)
  | _ => none

/-- A slice made: its length and its room. -/
def eMakeSlice (T : TT) (d : Nat) (t : TypeId) : Cell → Cell → R
  | .int _ l, .int _ c => match tt T t with
    | some { d := .slice el, .. } => (match tt T el with
      | some f => (match pcs f.zero with
        | some z => cond (Nat.beq (len f.zero) f.size) (some (decide (0 ≤ l ∧ l ≤ c ∧ c ≤ 100000 ∧ (f.bytes : Int) * c ≤ 16777216), .v (.one (.whole (d, 0))), [((d, 0), some (.arr true f.size (.lit (rep z l.toNat))))])) none
        | none => none)
      | none => none)
    | _ => none
  | _, _ => none

def eLoad (T : TT) (s : St) (t : TypeId) : Cell → R
  | .ptr x i j dy => match live s.store x, tt T t with
    | some b, some e => cond e.agg
      (match rdN b i j e.size dy with
        | some (o, cs) => some (o, .v (.agg cs), [])
        | none => none)
      (match rd1 b i j dy with
        | some (o, c) => some (o, .v (.one c), [])
        | none => none)
    | _, _ => none
  | _ => none

def eStore (T : TT) (s : St) (t : TypeId) (v : V1) : Cell → R
  | .ptr x i j dy => match live s.store x, tt T t with
    | some b, some e => cond (Nat.beq (len v.cells) e.size) (match wrB b i j dy v.cells with
      | some (o, b') => some (o, .tup [], [(x, some b')])
      | none => none) none
    | _, _ => none
  | _ => none

def eFieldAddr (T : TT) (t : TypeId) (f : Nat) : Cell → R
  | .ptr x i j dy => match tt T t with
    | some { d := .struct fs, .. } => (match nth fs f with
      | some (ty, off) => (match tt T ty with
        | some e => cond (Nat.beq e.size 0) none (ok1 (.ptr x i (j + off) dy))
        | none => none)
      | none => none)
    | _ => none
  | _ => none

def partA (e : TE) (cs : List Cell) (off : Nat) : Option V1 :=
  cond e.agg (match takeN e.size (dropN off cs) with
    | some l => some (.agg l)
    | none => none) (match nth cs off with
    | some c => some (.one c)
    | none => none)

def eField (T : TT) (t : TypeId) (f : Nat) : V1 → R
  | .agg cs => match tt T t with
    | some { d := .struct fs, .. } => (match nth fs f with
      | some (ty, off) => (match tt T ty with
        | some e => (match partA e cs off with
          | some v => some (true, .v v, [])
          | none => none)
        | none => none)
      | none => none)
    | _ => none
  | _ => none

def eIndexAddr (T : TT) (s : St) (t : TypeId) (dy : Bool) : Cell → Cell → R
  | .ptr x i j dy0, .int _ n => match tt T t with
    | some { d := .array m el, .. } => (match tt T el with
      | some e => some (decide (0 ≤ n ∧ n < (m : Int)), .v (.one (.ptr x i (n.toNat * e.size + j) (cond dy0 true dy))), [])
      | none => none)
    | _ => none
  | .whole x, .int _ n => match tt T t with
    | some { d := .slice el, .. } => (match tt T el, live s.store x with
      | some e, some (.arr _ sz els) => cond (Nat.beq sz e.size) (some (decide (0 ≤ n ∧ n < (els.len : Int)), .v (.one (.ptr x n.toNat 0 dy)), [])) none
      | _, _ => none)
    | _ => none
  | .sl x off ln, .int _ n => match tt T t with
    | some { d := .slice el, .. } => (match tt T el, live s.store x with
      | some e, some (.arr _ sz _) => cond (Nat.beq sz e.size) (some (decide (0 ≤ n ∧ n < (ln : Int)), .v (.one (.ptr x (off + n.toNat) 0 dy)), [])) none
      | _, _ => none)
    | _ => none
  | _, _ => none

def eIndex (T : TT) (t : TypeId) (dy : Bool) : V1 → Cell → R
  | .agg cs, .int _ n => match tt T t with
    | some { d := .array m el, .. } => (match tt T el with
      | some e => cond (cond e.agg false dy)
        (match selC cs (n.toNat * e.size) with
          | some c => some (cond (decide (0 ≤ n ∧ n < (m : Int))) (Nat.blt (n.toNat * e.size) (len cs)) false, .v (.one c), [])
          | none => none)
        (match partA e cs (n.toNat * e.size) with
          | some v => some (decide (0 ≤ n ∧ n < (m : Int)), .v v, [])
          | none => none)
      | none => none)
    | _ => none
  | _, _ => none

def intOr (s : St) (z : Int) : Option Operand → Option Int
  | none => some z
  | some x => match s.evc x with
    | some (.int _ n) => some n
    | _ => none

def eSlice (T : TT) (s : St) (t : TypeId) (lo hi : Option Operand) : Cell → R
  | .whole x => match tt T t with
    | some { d := .slice el, .. } => (match tt T el, live s.store x with
      | some e, some (.arr _ sz els) => (match intOr s 0 lo, intOr s (els.len : Int) hi with
        | some l, some h => cond (Nat.beq sz e.size) (some (decide (0 ≤ l ∧ l ≤ h ∧ h ≤ (els.len : Int)), .v (.one (.sl x l.toNat (h.toNat - l.toNat))), [])) none
        | _, _ => none)
      | _, _ => none)
    | _ => none
  | .sl x off ln => match tt T t with
    | some { d := .slice el, .. } => (match tt T el, live s.store x with
      | some e, some (.arr _ sz _) => (match intOr s 0 lo, intOr s (ln : Int) hi with
        | some l, some h => cond (Nat.beq sz e.size) (some (decide (0 ≤ l ∧ l ≤ h ∧ h ≤ (ln : Int)), .v (.one (.sl x (off + l.toNat) (h.toNat - l.toNat))), [])) none
        | _, _ => none)
      | _, _ => none)
    | _ => none
  | .nils => match tt T t with
    | some { d := .slice el, .. } => (match tt T el, intOr s 0 lo, intOr s ((0 : Nat) : Int) hi with
      | some _, some l, some h => some (decide (0 ≤ l ∧ l ≤ h ∧ h ≤ ((0 : Nat) : Int)), .v (.one .nils), [])
      | _, _, _ => none)
    | _ => none
  | _ => none

def eLen (T : TT) (s : St) (t : TypeId) : V1 → R
  | .one (.whole x) => match tt T t, live s.store x with
    | some { d := .slice _, .. }, some (.arr _ _ els) => ok1 (.int .i64 (els.len : Int))
    | _, _ => none
  | .one (.sl _ _ ln) => match tt T t with
    | some { d := .slice _, .. } => ok1 (.int .i64 (ln : Int))
    | _ => none
  | .one .nils => match tt T t with
    | some { d := .slice _, .. } => ok1 (.int .i64 0)
    | _ => none
  | .agg _ => match tt T t with
    | some { d := .array n _, .. } => ok1 (.int .i64 (n : Int))
    | _ => none
  | _ => none

/-- What a slice holds: its elements, if they have that size. -/
def content (s : St) (size : Nat) : Cell → Option Els
  | .whole x => match live s.store x with
    | some (.arr _ sz els) => cond (Nat.beq sz size) (some els) (match els with
      | .lit [] => some (.lit [])
      | _ => none)
    | _ => none
  | .sl x off ln => match live s.store x with
    | some (.arr _ sz els) => cond (Nat.beq sz size) (some (els.cut off ln)) none
    | _ => none
  | .nils => some (.lit [])
  | _ => none

/-- The block that an append may write: it is given up. -/
def given (s : St) (size : Nat) : Cell → Option (List Up)
  | .whole x => match live s.store x with
    | some (.arr true sz _) => cond (Nat.beq sz size) (some [(x, none)]) none
    | _ => none
  | .sl x 0 _ => match live s.store x with
    | some (.arr true sz _) => cond (Nat.beq sz size) (some [(x, none)]) none
    | _ => none
  | .nils => some []
  | _ => none

def eAppend (T : TT) (s : St) (d : Nat) (t : TypeId) (a b : Cell) : R :=
  match tt T t with
  | some { d := .slice el, .. } => (match tt T el with
    | some e => (match content s e.size a, content s e.size b, given s e.size a with
      | some xs, some ys, some g => cond (Nat.blt 0 e.bytes) (cond (Nat.beq (len e.zero) e.size) (cond (Nat.blt 0 e.size) (some (decide ((xs.len + ys.len) * e.bytes ≤ 140737488355328), .v (.one (.whole (d, 0))), ((d, 0), some (.arr true e.size (xs.app ys))) :: g)) none) none) none
      | _, _, _ => none)
    | none => none)
  | _ => none

def eMax (mx : Bool) : Cell → Cell → R
  | .int k a, .int k' b => if k = k' then ok1 (.int k (cond mx (if b > a then b else a) (if b < a then b else a))) else none
  | _, _ => none

/-- An operation that calls nothing and chooses nothing. -/
def evalP (T : TT) (s : St) (d : Nat) : Op → R
  | .move x => match s.ev x with
    | some v => some (true, v, [])
    | none => none
  | .assign x => match s.ev x with
    | some v => some (true, v, [])
    | none => none
  | .alloc elem => match tt T elem with
    | some e => some (true, .v (.one (.ptr (d, 0) 0 0 false)), [((d, 0), some (.var e.zero))])
    | none => none
  | .box _ x => match s.ev1 x with
    | some v => some (true, .v (.one (.ptr (d, 0) 0 0 false)), [((d, 0), some (.var v.cells))])
    | none => none
  | .build t parts => eBuild T s t parts
  | .buildSlice t n parts => eBuildSlice T s d t n parts
  | .makeSlice t x y => match s.evc x, s.evc y with
    | some a, some b => eMakeSlice T d t a b
    | _, _ => none
  | .load t a => match s.evc a with
    | some c => eLoad T s t c
    | none => none
  | .store t a x => match s.evc a, s.ev1 x with
    | some c, some v => eStore T s t v c
    | _, _ => none
  | .nilCheck x => match s.evc x with
    | some (.ptr y i j dy) => ok1 (.ptr y i j dy)
    | _ => none
  | .binOp op t x y _ => match s.ev1 x, s.ev1 y with
    | some a, some b => eBin T op t a b
    | _, _ => none
  | .unOp op _ x => match s.evc x with
    | some c => eUn op c
    | none => none
  | .convert src dst x => match s.evc x with
    | some c => eConv T src dst c
    | none => none
  | .makeFunc (.func f) first captured => match first.toList, captured.toList with
    | [], [] => ok1 (.fn f)
    | _, _ => none
  | .slice t x lo hi none => match s.evc x with
    | some c => eSlice T s t lo hi c
    | none => none
  | .fieldAddr t x f => match s.evc x with
    | some c => eFieldAddr T t f c
    | none => none
  | .field t x f => match s.ev1 x with
    | some v => eField T t f v
    | none => none
  | .indexAddr t x ix => match s.evc x, s.evc ix with
    | some a, some b => eIndexAddr T s t (inL d T.dyn) a b
    | _, _ => none
  | .index t x ix => match s.ev1 x, s.evc ix with
    | some a, some b => eIndex T t (inL d T.dyn) a b
    | _, _ => none
  | .extract x i => match s.ev x with
    | some (.tup l) => (match nth l i with
      | some v => some (true, .v v, [])
      | none => none)
    | _ => none
  | .call { callee := .builtin b, args, argTypes } => match b, args.toList, argTypes.toList with
    | .len, [x], [t] => (match s.ev1 x with
      | some v => eLen T s t v
      | none => none)
    | .append, [x, y], [t, t'] => (match s.evc x, s.evc y with
      | some a, some b => cond (Nat.beq t t') (eAppend T s d t a b) none
      | _, _ => none)
    | .max, [x, y], _ => (match s.evc x, s.evc y with
      | some a, some b => eMax true a b
      | _, _ => none)
    | .min, [x, y], _ => (match s.evc x, s.evc y with
      | some a, some b => eMax false a b
      | _, _ => none)
    | _, _, _ => none
  | _ => none

/-! ### Calls: arguments and results without names -/

inductive DC where
  | pc (c : PC)
  | sl (sz : Nat) (els : Els)

inductive D1 where
  | one (c : DC)
  | agg (cs : List DC)

inductive DRes where
  | v (x : D1)
  | tup (l : List D1)

def deepC (st : List Up) (z : Nat) : Cell → Option DC
  | .int k n => some (.pc (.int k n))
  | .bool b => some (.pc (.bool b))
  | .whole x => match live st x with
    | some (.arr _ sz els) => some (.sl sz els)
    | _ => none
  | .sl x off ln => match live st x with
    | some (.arr _ sz els) => some (.sl sz (els.cut off ln))
    | _ => none
  | .nils => some (.sl z (.lit []))
  | _ => none

def deepCs (st : List Up) : List Cell → Option (List DC)
  | [] => some []
  | c :: r => match deepC st 0 c, deepCs st r with
    | some x, some l => some (x :: l)
    | _, _ => none

/-- The size of a slice type's elements (0 where it is none). -/
def esize (T : TT) (t : TypeId) : Nat :=
  match tt T t with
  | some { d := .slice el, .. } => (match tt T el with
    | some e => e.size
    | none => 0)
  | _ => 0

def deep1 (st : List Up) (z : Nat) : V1 → Option D1
  | .one c => match deepC st z c with
    | some x => some (.one x)
    | none => none
  | .agg cs => match deepCs st cs with
    | some l => some (.agg l)
    | none => none

def deepArgs (T : TT) (s : St) : List Operand → List TypeId → Option (List D1)
  | [], _ => some []
  | x :: r, ts => match s.ev1 x with
    | some v => (match deep1 s.store (match ts with | t :: _ => esize T t | [] => 0) v, deepArgs T s r ts.tail with
      | some a, some l => some (a :: l)
      | _, _ => none)
    | none => none

/-- A result's slices must be the call's own. -/
def ownC (st : List Up) (z : Nat) : Cell → Option DC
  | .int k n => some (.pc (.int k n))
  | .bool b => some (.pc (.bool b))
  | .whole x => match live st x with
    | some (.arr true sz els) => some (.sl sz els)
    | _ => none
  | .nils => some (.sl z (.lit []))
  | _ => none

def ownCs (st : List Up) : List Cell → Option (List DC)
  | [] => some []
  | c :: r => match ownC st 0 c, ownCs st r with
    | some x, some l => some (x :: l)
    | _, _ => none

def own1 (st : List Up) (z : Nat) : V1 → Option D1
  | .one c => match ownC st z c with
    | some x => some (.one x)
    | none => none
  | .agg cs => match ownCs st cs with
    | some l => some (.agg l)
    | none => none

/-- Names for what comes in: 'own' for a call's results, not for arguments. -/
def shC (d i : Nat) : DC → Cell
  | .pc c => c.c
  | .sl _ _ => .whole (d, i)

def shUp (own : Bool) (d i : Nat) : DC → List Up
  | .pc _ => []
  | .sl sz els => [((d, i), some (.arr own sz els))]

def shCs (d : Nat) : Nat → List DC → List Cell
  | _, [] => []
  | i, c :: r => shC d i c :: shCs d (i + 1) r

def shUps (own : Bool) (d : Nat) : Nat → List DC → List Up
  | _, [] => []
  | i, c :: r => shUp own d i c ++ shUps own d (i + 1) r

def sh1 (d i : Nat) : D1 → V1
  | .one c => .one (shC d i c)
  | .agg cs => .agg (shCs d i cs)

def sh1Up (own : Bool) (d i : Nat) : D1 → List Up
  | .one c => shUp own d i c
  | .agg cs => shUps own d i cs

def shL (d : Nat) : Nat → List D1 → List V1
  | _, [] => []
  | i, x :: r => sh1 d i x :: shL d (i + 100) r

def shLUp (own : Bool) (d : Nat) : Nat → List D1 → List Up
  | _, [] => []
  | i, x :: r => sh1Up own d i x ++ shLUp own d (i + 100) r

def shR (d : Nat) : DRes → SV
  | .v x => .v (sh1 d 0 x)
  | .tup l => .tup (shL d 0 l)

def shRUp (d : Nat) : DRes → List Up
  | .v x => sh1Up true d 0 x
  | .tup l => shLUp true d 0 l

abbrev Ans := Option DRes
abbrev CallT := FuncId → List D1 → (DRes → Ans) → Ans

def slot : Option Tmp → Nat
  | some d => d
  | none => 999999

/-- One operation, its guard apart. -/
def evalOp (T : TT) (call : CallT) (s : St) (o : Oper) (k : SV → List Up → Ans) : Ans :=
  match o.op with
  | .pick c a b => match s.evc c with
    | some (.bool t) => cond t (match s.ev a with
        | some v => k v []
        | none => none) (match s.ev b with
        | some v => k v []
        | none => none)
    | _ => none
  | .call { callee := .value f, args, argTypes } => match s.evc f with
    | some (.fn g) => (match deepArgs T s args.toList argTypes.toList with
      | some l => call g l (fun r => k (shR (slot o.dst) r) (shRUp (slot o.dst) r))
      | none => none)
    | _ => none
  | op => match evalP T s (slot o.dst) op with
    | some (ob, v, ups) => cond ob (k v ups) none
    | none => none

def consT (d : Option Tmp) (v : SV) (l : List (Nat × Option SV)) : List (Nat × Option SV) :=
  match d with
  | some d => (d, some v) :: l
  | none => l

def dstOK (d : Option Tmp) (n : Nat) : Bool :=
  match d with
  | some d => Nat.blt d n
  | none => true

/-- Names that begin with the slot d are new (no entry), others have a live entry; no two are one. -/
def newOK (st : List Up) (d : Nat) : List Up → Bool
  | [] => true
  | (x, _) :: r => cond (match find st x with
      | none => Nat.beq x.1 d
      | some (some _) => !(Nat.beq x.1 d)
      | some none => false) (cond (match find r x with | none => true | some _ => false) (newOK st d r) false) false

def applyS (s : St) (d : Option Tmp) (v : SV) (ups : List Up) (k : St → Ans) : Ans :=
  cond (dstOK d s.n) (cond (newOK s.store (slot d) ups) (k { tmps := consT d v s.tmps, store := ups ++ s.store, n := s.n }) none) none

def dstOf (full : List Oper) (j : Nat) : Option Tmp :=
  match nth full j with
  | some o => o.dst
  | none => none

/-- A region's operations in the text's order. -/
def runOps (T : TT) (call : CallT) (full : List Oper) : List Oper → St → (St → Ans) → Ans
  | [], s, k => k s
  | o :: r, s, k =>
    match o.guard with
    | none => evalOp T call s o fun v ups => applyS s o.dst v ups fun s' => runOps T call full r s' k
    | some (j, want) => match dstOf full j with
      | none => none
      | some g => match getT s.tmps g with
        | some (.v (.one (.bool b))) =>
          cond b
            (cond want (evalOp T call { s with tmps := (g, some (.v (.one (.bool true)))) :: s.tmps } o fun v ups => applyS { s with tmps := (g, some (.v (.one (.bool true)))) :: s.tmps } o.dst v ups fun s' => runOps T call full r s' k)
              (applyS { s with tmps := (g, some (.v (.one (.bool true)))) :: s.tmps } o.dst (.tup []) [] fun s' => runOps T call full r s' k))
            (cond want (applyS { s with tmps := (g, some (.v (.one (.bool false)))) :: s.tmps } o.dst (.tup []) [] fun s' => runOps T call full r s' k)
              (evalOp T call { s with tmps := (g, some (.v (.one (.bool false)))) :: s.tmps } o fun v ups => applyS { s with tmps := (g, some (.v (.one (.bool false)))) :: s.tmps } o.dst v ups fun s' => runOps T call full r s' k))
        | some (.tup []) => applyS s o.dst (.tup []) [] fun s' => runOps T call full r s' k
        | _ => none

/-! ### A region that draws its order -/

structure Ent where
  i : Nat
  d : Option Tmp
  v : SV
  ups : List Up

def bit (m j : Nat) : Bool := Nat.testBit m j

def nthD (l : List Nat) (i : Nat) : Nat :=
  match nth l i with
  | some x => x
  | none => 0

/-- No order between the two is fixed. -/
def loose (ms : List Nat) (i j : Nat) : Bool := cond (Nat.beq i j) false (cond (bit (nthD ms i) j) false (cond (bit (nthD ms j) i) false true))

abbrev Wr := List (Nat × List Nm)

def wrOf : Wr → Nat → List Nm
  | [], _ => []
  | (j, l) :: r, i => cond (Nat.beq j i) l (wrOf r i)

def hiddenS (ms : List Nat) (i : Nat) : Wr → List Up
  | [] => []
  | (j, l) :: r => cond (loose ms i j) (l.map (fun x => (x, none)) ++ hiddenS ms i r) (hiddenS ms i r)

def entT : List Ent → List (Nat × Option SV)
  | [] => []
  | e :: r => consT e.d e.v (entT r)

def entS : List Ent → List Up
  | [] => []
  | e :: r => e.ups ++ entS r

def below (m : Nat) : List Ent → List Ent
  | [] => []
  | e :: r => cond (bit m e.i) (e :: below m r) (below m r)

def idxOf (d : Nat) : Nat → List Oper → Option Nat
  | _, [] => none
  | j, o :: r => cond (match o.dst with | some e => Nat.beq e d | none => false) (some j) (idxOf d (j + 1) r)

def entGet : List Ent → Nat → Option SV
  | [], _ => none
  | e :: r, j => cond (Nat.beq e.i j) (some e.v) (entGet r j)

/-- A slot as operation i finds it, whatever the order. -/
def slotIn (base : St) (ms : List Nat) (full : List Oper) (rs : List Ent) (i t : Nat) : Option SV :=
  match idxOf t 0 full with
  | none => getT base.tmps t
  | some j => cond (bit (nthD ms i) j) (entGet rs j) (cond (cond (Nat.beq j i) true (bit (nthD ms j) i)) (getT base.tmps t) none)

/-- The operands that an operation looks at. -/
def opsOf : Op → List Operand
  | .move x => [x]
  | .assign x => [x]
  | .pick c a b => [c, a, b]
  | .box _ x => [x]
  | .build _ ps => ps.toList.map (·.2)
  | .buildSlice _ _ ps => ps.toList.map (·.2)
  | .makeSlice _ x y => [x, y]
  | .load _ x => [x]
  | .store _ a v => [a, v]
  | .nilCheck x => [x]
  | .binOp _ _ a b _ => [a, b]
  | .unOp _ _ x => [x]
  | .convert _ _ x => [x]
  | .slice _ x lo hi _ => x :: (lo.toList ++ hi.toList)
  | .fieldAddr _ x _ => [x]
  | .field _ x _ => [x]
  | .indexAddr _ a b => [a, b]
  | .index _ a b => [a, b]
  | .extract x _ => [x]
  | .call { callee := .value f, args, .. } => f :: args.toList
  | .call { callee := .builtin _, args, .. } => args.toList
  | _ => []

def slotsOf (f : Nat → Option SV) : List Operand → List (Nat × Option SV)
  | [] => []
  | .tmp t :: r => (t, f t) :: slotsOf f r
  | _ :: r => slotsOf f r

def stAt (base : St) (ms : List Nat) (wr : Wr) (full : List Oper) (rs : List Ent) (i : Nat) (o : Oper) : St :=
  { tmps := slotsOf (slotIn base ms full rs i) (opsOf o.op), store := hiddenS ms i wr ++ (entS (below (nthD ms i) rs) ++ base.store), n := base.n }

/-- Entry j's value is this boolean. -/
def setE (j : Nat) (b : Bool) : List Ent → List Ent
  | [] => []
  | e :: r => cond (Nat.beq e.i j) (⟨e.i, e.d, .v (.one (.bool b)), e.ups⟩ :: r) (e :: setE j b r)

def memN (x : Nm) : List Nm → Bool
  | [] => false
  | y :: r => cond (nmb y x) true (memN x r)

def memT (d : Nat) : List Oper → Option Nat → Bool
  | [], _ => false
  | o :: r, k => cond (match o.dst with | some e => Nat.beq e d | none => false) true (memT d r k)

/-- Whether operation i stands in a fixed order to every other. -/
def tight (ms : List Nat) (i : Nat) : Nat → List Oper → Bool
  | _, [] => true
  | j, _ :: r => cond (loose ms i j) false (tight ms i (j + 1) r)

/-- What an operation writes: its own new names, or live names that it is known to write. -/
def upsOK (ms : List Nat) (wr : Wr) (full : List Oper) (st : List Up) (i d : Nat) : List Up → Bool
  | [] => true
  | (x, _) :: r => cond (cond (match find st x with
      | none => (match idxOf x.1 0 full with
        | some k => Nat.beq k i
        | none => false)
      | some (some _) => cond (Nat.beq x.1 d) false (cond (memN x (wrOf wr i)) true (tight ms i 0 full))
      | some none => false) (match find r x with | none => true | some _ => false) false) (upsOK ms wr full st i d r) false

/-- A name that an operation of the region made is written behind it alone. -/
def fromOK (ms : List Nat) (full : List Oper) (i : Nat) : List Up → Bool
  | [] => true
  | (x, _) :: r => cond (match idxOf x.1 0 full with
      | none => true
      | some k => cond (Nat.beq k i) true (bit (nthD ms i) k)) (fromOK ms full i r) false

def nodupD : List Oper → Bool
  | [] => true
  | o :: r => cond (match o.dst with | some d => memT d r none | none => false) false (nodupD r)

def allBelow (ms : List Nat) : Nat → List Nat → Bool
  | _, [] => true
  | i, m :: r => cond (Nat.blt m (Nat.shiftLeft 1 i)) (allBelow ms (i + 1) r) false

def edgesM (ms : List Nat) : List Edge → Nat
  | [] => 0
  | e :: r => cond (Region.binds .any e) (Nat.lor (Nat.lor (Nat.shiftLeft 1 e.on) (nthD ms e.on)) (edgesM ms r)) (edgesM ms r)

/-- Each operation's bits are those that its edges give. -/
def edgesOK (ms : List Nat) : Nat → List Oper → Bool
  | _, [] => true
  | i, o :: r => cond (Nat.beq (nthD ms i) (edgesM ms o.after.toList)) (edgesOK ms (i + 1) r) false

def guardsOK (ms : List Nat) : Nat → List Oper → Bool
  | _, [] => true
  | i, o :: r => cond (match o.guard with | none => true | some (j, _) => bit (nthD ms i) j) (guardsOK ms (i + 1) r) false

def baseOK (full : List Oper) : List Up → Bool
  | [] => true
  | (x, _) :: r => cond (memT x.1 full none) false (baseOK full r)

def dstsOK (n : Nat) : List Oper → Bool
  | [] => true
  | o :: r => cond (dstOK o.dst n) (dstsOK n r) false

def drawOK (ms : List Nat) (full : List Oper) (base : St) : Bool :=
  cond (nodupD full) (cond (allBelow ms 0 ms) (cond (edgesOK ms 0 full) (cond (guardsOK ms 0 full) (cond (baseOK full base.store) (dstsOK base.n full) false) false) false) false) false

def runDraw (T : TT) (call : CallT) (base : St) (ms : List Nat) (wr : Wr) (full : List Oper) : List Oper → Nat → List Ent → (St → Ans) → Ans
  | [], _, rs, k => k { tmps := entT rs ++ base.tmps, store := entS rs ++ base.store, n := base.n }
  | o :: r, i, rs, k =>
    match o.guard with
    | none => evalOp T call (stAt base ms wr full rs i o) o fun v ups =>
        cond (upsOK ms wr full (stAt base ms wr full rs i o).store i (slot o.dst) ups) (cond (fromOK ms full i ups) (runDraw T call base ms wr full r (i + 1) (⟨i, o.dst, v, ups⟩ :: rs) k) none) none
    | some (j, want) => match dstOf full j with
      | none => none
      | some _ => match entGet rs j with
        | some (.v (.one (.bool b))) =>
          cond b
            (cond want (evalOp T call (stAt base ms wr full (setE j true rs) i o) o fun v ups =>
                cond (upsOK ms wr full (stAt base ms wr full (setE j true rs) i o).store i (slot o.dst) ups) (cond (fromOK ms full i ups) (runDraw T call base ms wr full r (i + 1) (⟨i, o.dst, v, ups⟩ :: setE j true rs) k) none) none)
              (runDraw T call base ms wr full r (i + 1) (⟨i, o.dst, .tup [], []⟩ :: setE j true rs) k))
            (cond want (runDraw T call base ms wr full r (i + 1) (⟨i, o.dst, .tup [], []⟩ :: setE j false rs) k)
              (evalOp T call (stAt base ms wr full (setE j false rs) i o) o fun v ups =>
                cond (upsOK ms wr full (stAt base ms wr full (setE j false rs) i o).store i (slot o.dst) ups) (cond (fromOK ms full i ups) (runDraw T call base ms wr full r (i + 1) (⟨i, o.dst, v, ups⟩ :: setE j false rs) k) none) none))
        | some (.tup []) => runDraw T call base ms wr full r (i + 1) (⟨i, o.dst, .tup [], []⟩ :: rs) k
        | _ => none

/-! ### A state made small at a loop's head -/

abbrev Ren := List (Nm × Nm)

def renOf : Ren → Nm → Option Nm
  | [], _ => none
  | (x, y) :: r, z => cond (nmb x z) (some y) (renOf r z)

def renC (m : Ren) : Cell → Option Cell
  | .int k n => some (.int k n)
  | .bool b => some (.bool b)
  | .nilp => some .nilp
  | .nils => some .nils
  | .fn f => some (.fn f)
  | .ptr x i j dy => match renOf m x with
    | some y => some (.ptr y i j dy)
    | none => none
  | .whole x => match renOf m x with
    | some y => some (.whole y)
    | none => none
  | .sl x off ln => match renOf m x with
    | some y => some (.sl y off ln)
    | none => none

def renCs (m : Ren) : List Cell → Option (List Cell)
  | [] => some []
  | c :: r => match renC m c, renCs m r with
    | some x, some l => some (x :: l)
    | _, _ => none

def renV (m : Ren) : V1 → Option V1
  | .one c => match renC m c with
    | some x => some (.one x)
    | none => none
  | .agg cs => match renCs m cs with
    | some l => some (.agg l)
    | none => none

def renB (m : Ren) : Blk → Option Blk
  | .var cs => match renCs m cs with
    | some l => some (.var l)
    | none => none
  | .arr o z e => some (.arr o z e)

/-- The names that stand in a list of cells, each with its new name. -/
def namesIn (m : Ren) (t : Nat) : Nat → List Cell → Ren
  | _, [] => m
  | i, c :: r =>
    match c with
    | .ptr x _ _ _ => namesIn (match renOf m x with | some _ => m | none => m ++ [(x, x)]) t (i + 1) r
    | .whole x => namesIn (match renOf m x with | some _ => m | none => m ++ [(x, cond (Nat.blt x.2 1000) (t, i) x)]) t (i + 1) r
    | .sl x _ _ => namesIn (match renOf m x with | some _ => m | none => m ++ [(x, cond (Nat.blt x.2 1000) (t, i) x)]) t (i + 1) r
    | _ => namesIn m t (i + 1) r

/-- All names in these cells stand for blocks. -/
def liveCs (st : List Up) : List Cell → Bool
  | [] => true
  | c :: r => match c with
    | .ptr x _ _ _ => (match live st x with | some _ => liveCs st r | none => false)
    | .whole x => (match live st x with | some _ => liveCs st r | none => false)
    | .sl x _ _ => (match live st x with | some _ => liveCs st r | none => false)
    | _ => liveCs st r

def keepT (s : St) : List Nat → List (Nat × V1)
  | [] => []
  | t :: r => match getT s.tmps t with
    | some (.v x) => cond (liveCs s.store x.cells) ((t, x) :: keepT s r) (keepT s r)
    | _ => keepT s r

def namesT (m : Ren) : List (Nat × V1) → Ren
  | [] => m
  | (t, v) :: r => namesT (namesIn m (t + 1000000) 2000 v.cells) r

def namesB (s : St) (m : Ren) : Ren → Ren
  | [] => m
  | (x, _) :: r => match live s.store x with
    | some (.var cs) => namesB s (namesIn m x.1 3000 cs) r
    | _ => namesB s m r

def renT (m : Ren) : List (Nat × V1) → Option (List (Nat × Option SV))
  | [] => some []
  | (t, v) :: r => match renV m v, renT m r with
    | some x, some l => some ((t, some (.v x)) :: l)
    | _, _ => none

def renS (s : St) (m : Ren) : Ren → Option (List Up)
  | [] => some []
  | (x, y) :: r => match live s.store x with
    | some b => (match renB m b, renS s m r with
      | some c, some l => some ((y, some c) :: l)
      | _, _ => none)
    | none => none

def nodupR : Ren → Bool
  | [] => true
  | (x, y) :: r => cond (r.any fun p => cond (nmb p.1 x) true (nmb p.2 y)) false (nodupR r)

def compact (ls : List Nat) (s : St) (k : St → Ans) : Ans :=
  let vs := keepT s ls
  let m0 := namesT [] vs
  let m := namesB s m0 m0
  cond (nodupR m) (match renT m vs, renS s m m with
    | some t, some st => k { tmps := t, store := st, n := s.n }
    | _, _ => none) none

/-! ### Code -/

inductive Ex where
  | normal
  | exit (id : Nat)
  | ret

structure Ann where
  live : List (Nat × List Nat)
  dr : List (Nat × List Nat × Wr)
  dyn : List Nat := []
  sps : List Nat := []
  sums : List (Nat × (St → (Ex → St → Ans) → Ans)) := []

/-- What is known of a loop as a whole. -/
def sumOf : List (Nat × (St → (Ex → St → Ans) → Ans)) → Nat → Option (St → (Ex → St → Ans) → Ans)
  | [], _ => none
  | (j, f) :: r, i => cond (Nat.beq j i) (some f) (sumOf r i)

def liveOf : List (Nat × List Nat) → Nat → Option (List Nat)
  | [], _ => none
  | (j, l) :: r, i => cond (Nat.beq j i) (some l) (liveOf r i)

def drAt : List (Nat × List Nat × Wr) → Nat → List Nat × Wr
  | [], _ => ([], [])
  | (j, l) :: r, i => cond (Nat.beq j i) l (drAt r i)

def firstRegion : Code → Nat
  | .region id _ _ => id
  | .seq a _ => firstRegion a
  | .block _ b => firstRegion b
  | .loop b => firstRegion b
  | _ => 0

def loopN (f : St → (Ex → St → Ans) → Ans) : Nat → St → (Ex → St → Ans) → Ans
  | 0, _, _ => none
  | n + 1, s, k => f s fun e s' => match e with
    | .normal => loopN f n s' k
    | e => k e s'

def atHead (an : Ann) (id : Nat) (s : St) (k : St → Ans) : Ans :=
  match liveOf an.live id with
  | some ls => compact ls s fun s' => cond (inL id an.sps) (k { s' with store := toSpS s'.store }) (k s')
  | none => k s

def evalC (T : TT) (call : CallT) (an : Ann) (lf : Nat) : Code → St → (Ex → St → Ans) → Ans
  | .skip, s, k => k .normal s
  | .region id ops draw, s, k =>
    cond draw
      (match drAt an.dr id with
        | (ms, wr) => cond (drawOK ms ops.toList s) (runDraw T call s ms wr ops.toList ops.toList 0 [] fun s' => k .normal s') none)
      (runOps T call ops.toList ops.toList s fun s' => k .normal s')
  | .seq a b, s, k => evalC T call an lf a s fun e s' => match e with
    | .normal => evalC T call an lf b s' k
    | e => k e s'
  | .cond c a b, s, k => match s.evc c with
    | some (.bool t) => cond t (evalC T call an lf a s k) (evalC T call an lf b s k)
    | _ => none
  | .block id b, s, k => evalC T call an lf b s fun e s' => match e with
    | .exit id' => cond (Nat.beq id' id) (k .normal s') (k (.exit id') s')
    | e => k e s'
  | .loop b, s, k => match sumOf an.sums (firstRegion b) with
    | some f => atHead an (firstRegion b) s fun s' => f s' k
    | none => loopN (fun s k => atHead an (firstRegion b) s fun s' => evalC T call an lf b s' k) lf s k
  | .exit id, s, k => k (.exit id) s
  | .ret, s, k => k .ret s
  | _, _, _ => none

/-! ### Functions -/

def initT : Nat → List D1 → List (Nat × Option SV)
  | _, [] => []
  | p, x :: r => (p, some (.v (sh1 p 1000 x))) :: initT (p + 1) r

def initS : Nat → List D1 → List Up
  | _, [] => []
  | p, x :: r => sh1Up false p 1000 x ++ initS (p + 1) r

def resOf (T : TT) (s : St) (z : Nat) : ResultVar → Option D1
  | .tmp t => match getT s.tmps t with
    | some (.v x) => own1 s.store z x
    | _ => none
  | .cell a t => match getT s.tmps a, tt T t with
    | some (.v (.one (.ptr x i j dy))), some e => (match live s.store x with
      | some b => cond e.agg
        (match rdN b i j e.size dy with
          | some (true, cs) => own1 s.store z (.agg cs)
          | _ => none)
        (match rd1 b i j dy with
          | some (true, c) => own1 s.store z (.one c)
          | _ => none)
      | none => none)
    | _, _ => none

def resAll (T : TT) (s : St) : List ResultVar → List TypeId → Option (List D1)
  | [], _ => some []
  | r :: l, ts => match resOf T s (match ts with | t :: _ => esize T t | [] => 0) r, resAll T s l ts.tail with
    | some x, some xs => some (x :: xs)
    | _, _ => none

def lenA {α : Type} : List α → Nat
  | [] => 0
  | _ :: r => lenA r + 1

/-- At most one slice in what is handed back. -/
def oneSl : List D1 → Nat
  | [] => 0
  | .one (.sl _ _) :: r => oneSl r + 1
  | .one (.pc _) :: r => oneSl r
  | .agg cs :: r => lenA (cs.filter fun c => match c with | .sl _ _ => true | .pc _ => false) + oneSl r

def evalFn (T : TT) (call : CallT) (an : Ann) (lf : Nat) (fn : Func) (args : List D1) (k : DRes → Ans) : Ans :=
  match fn.body with
  | none => none
  | some c => evalC ⟨T.l, an.dyn⟩ call an lf c { tmps := initT 0 args, store := initS 0 args, n := cond (Nat.ble (lenA args) fn.ntmps) fn.ntmps (lenA args) } fun e s =>
    match e with
    | .exit _ => none
    | _ => match resAll ⟨T.l, an.dyn⟩ s fn.results.toList fn.resultTypes.toList with
      | some l => cond (Nat.ble (oneSl l) 1) (match l with
        | [x] => k (.v x)
        | l => k (.tup l)) none
      | none => none

/-- What is known of functions: what they make of such arguments, and under which condition. -/
abbrev Env := List (FuncId × (List D1 → Option (Bool × DRes)))

def tot (g : List D1 → Option DRes) (l : List D1) : Option (Bool × DRes) :=
  match g l with
  | some d => some (true, d)
  | none => none

abbrev Fns := List (FuncId × Func × Ann)

def specOf : Env → FuncId → List D1 → Option (Bool × DRes)
  | [], _, _ => none
  | (g, f) :: r, h, a => cond (Nat.beq g h) (f a) (specOf r h a)

def fnOf : Fns → FuncId → Option (Func × Ann)
  | [], _ => none
  | (g, f) :: r, h => cond (Nat.beq g h) (some f) (fnOf r h)

def callD (T : TT) (E : Env) (F : Fns) (lf : Nat) : Nat → CallT
  | 0, _, _, _ => none
  | d + 1, f, a, k => match specOf E f a with
    | some (o, r) => cond o (k r) none
    | none => match fnOf F f with
      | some (fn, an) => evalFn T (callD T E F lf d) an lf fn a k
      | none => none

end Go.Eng
