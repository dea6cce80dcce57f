/- An abstract evaluator for the Go code of this seat: values, memory by places, the operations. Plain definitions; nothing of the machine. -/
import GoSem.Step
import Derived.Calls
import GoSem.Core.Region
import Derived.WalkKit
import Derived.Below
namespace Go.Ae
set_option linter.unusedVariables false
set_option linter.unusedSimpArgs false

abbrev Path := List (Nat × Nat)

inductive AV where
  | int (k : IntKind) (n : Int)
  | bool (b : Bool)
  | str (s : ByteArray)
  | nil (fl : Bool) (sz : Nat)
  | rd (fl : Bool) (xs : List (List AV))
  | own (fl : Bool) (xs : List (List AV))
  | sl (lv site ver : Nat) (p : Path) (off len : Nat)
  | ptr (lv site ver : Nat) (p : Path) (i c : Nat)
  | rptr (cells : List AV)
  | agg (cells : List AV)
  | fn (f : Nat) (caps : List AV)
  | tup (xs : List AV)
  | skp
  | undef
  deriving Inhabited

structure Blk where
  ver : Nat
  sz : Nat
  box : Bool
  fl : Bool
  elems : List (List AV)
  deriving Inhabited

abbrev Heap := List (Nat × Option Blk)

/-- An operand. -/
inductive X where
  | t (n : Nat)
  | k (v : AV)
  deriving Inhabited

/-- A scalar's kind. -/
inductive K3 where
  | i | b | s
  deriving DecidableEq, Inhabited

inductive I where
  | mv (x : X)
  | nil0 (fl : Bool) (sz : Nat)
  | pick (c a b : X)
  | alloc (cells : List AV)
  | box (x : X)
  | build (zero : List AV) (parts : List (Nat × Nat × X))
  | bslice (fl : Bool) (sz : Nat) (zero : List AV) (len : Nat) (parts : List (Nat × X))
  | load (n : Nat) (ag : Bool) (x : X)
  | store (n : Nat) (p x : X)
  | nilck (x : X)
  | bin (op : BinOp) (x y : X)
  | eqv (neg ag : Bool) (ks : List K3) (x y : X)
  | not (x : X)
  | neg (x : X)
  | conv (k : IntKind) (x : X)
  | strid (x : X)
  | s2b (x : X)
  | b2s (x : X)
  | mkf (f : Nat) (caps : List X)
  | mksl (fl : Bool) (sz bytes : Nat) (zero : List AV) (len cap : X)
  | cut (sz : Nat) (x : X) (lo hi : Option X)
  | scut (x : X) (lo hi : Option X)
  | faddr (off : Nat) (x : X)
  | field (off n : Nat) (ag : Bool) (x : X)
  | iaddr (sz : Nat) (x i : X)
  | idx (x i : X)
  | ext (x : X) (i : Nat)
  | call (f : Nat) (args : List X) (fl : Bool)
  | callv (x : X) (args : List X) (fl : Bool)
  | app (fl : Bool) (sz bytes : Nat) (s x : X)
  | len (str : Bool) (x : X)
  | max (x y : X)
  | min (x y : X)
  /-- As store, app, bslice, where whole rows are taken into a row's cells. -/
  | stm (n : Nat) (p x : X)
  | apm (fl : Bool) (sz bytes : Nat) (s x : X)
  | bsm (fl : Bool) (sz : Nat) (zero : List AV) (len : Nat) (parts : List (Nat × X))
  /-- A cut with three bounds; a row's cells set to nought. -/
  | cut3 (sz : Nat) (x : X) (lo : Option X) (hi m : X)
  | clr (sz : Nat) (zero : List AV) (x : X)
  /-- A cut behind which the row has no more than was cut. -/
  | cutm (sz : Nat) (x hi : X) (m : Option X)
  deriving Inhabited

/-- g: the guard's place and what it must say. base: where the sites of what is made here begin. ix: its place in the text. apart: addresses that it must not write to; of one that writes nothing: hints where its place lies, or what is there ahead of it. -/
structure IOp where
  dst : Option Nat
  op : I
  g : Option (Option Nat × Bool)
  base : Nat
  ix : Nat
  apart : List X
  deriving Inhabited

inductive C where
  | skip
  | reg (ops : List IOp)
  | seq (a b : C)
  | cond (c : X) (a b : C)
  | block (id : Nat) (c : C)
  | loop (keepT keepS : List Nat) (c : C)
  | exit (id : Nat)
  | ret
  | ifnil (neg : Bool) (d : Nat) (x : X) (a b : C)
  /-- No code: a block goes by another's place from here on. -/
  | ren (s t : Nat)
  deriving Inhabited

inductive RV where
  | t (n : Nat)
  | cell (a n : Nat) (ag : Bool)
  deriving Inhabited

structure F where
  np : Nat
  ntmps : Nat
  res : List RV
  body : C
  deriving Inhabited

/-! ### References -/
mutual
/-- Each reference to a place, told anew. -/
def AV.mapR (g : Nat → Nat → Nat → Path → Option (Nat × Nat × Nat)) : AV → AV
  | .sl lv s v p off len => match g lv s v p with | some (lv', s', v') => .sl lv' s' v' p off len | none => .undef
  | .ptr lv s v p i c => match g lv s v p with | some (lv', s', v') => .ptr lv' s' v' p i c | none => .undef
  | .agg cs => .agg (AV.mapRs g cs)
  | .fn f cs => .fn f (AV.mapRs g cs)
  | .tup cs => .tup (AV.mapRs g cs)
  | .rptr cs => .rptr cs
  | v => v
def AV.mapRs (g : Nat → Nat → Nat → Path → Option (Nat × Nat × Nat)) : List AV → List AV
  | [] => []
  | v :: r => v.mapR g :: AV.mapRs g r
end

mutual
/-- What is owned inside, told as what is only read. -/
def AV.deep : AV → AV
  | .own fl xs => .rd fl (AV.deepRows xs)
  | v => v
def AV.deepRows : List (List AV) → List (List AV)
  | [] => []
  | r :: rs => AV.deepRow r :: AV.deepRows rs
def AV.deepRow : List AV → List AV
  | [] => []
  | v :: r => v.deep :: AV.deepRow r
end

/-- One cell of the machine's. -/
def AV.one : AV → Bool
  | .int .. | .bool _ | .str _ | .nil .. | .rd .. | .sl .. | .ptr .. | .rptr _ | .fn .. => true
  | _ => false
def AV.isNil : AV → Bool
  | .nil .. => true
  | _ => false
def AV.scal : AV → Bool
  | .int .. | .bool _ | .str _ => true
  | _ => false

/-! ### Memory -/
def Heap.get : Heap → Nat → Option (Option Blk)
  | [], _ => none
  | (t, b) :: r, s => if s = t then some b else Heap.get r s
def Heap.set : Heap → Nat → Option Blk → Heap
  | [], s, b => [(s, b)]
  | (t, c) :: r, s, b => if s = t then (s, b) :: r else if s < t then (s, b) :: (t, c) :: r else (t, c) :: Heap.set r s b

structure St where
  tmps : List AV
  loc : Heap
  ext : List Heap
  deriving Inhabited

def St.heap (st : St) : Nat → Heap
  | 0 => st.loc
  | n + 1 => st.ext.getD n []
def St.blk (st : St) (lv s : Nat) : Option Blk := match (st.heap lv).get s with | some (some b) => some b | _ => none
def St.put (st : St) (lv s : Nat) (b : Option Blk) : St := match lv with
  | 0 => { st with loc := st.loc.set s b }
  | n + 1 => { st with ext := st.ext.modify n fun h => h.set s b }

def cellAt (xs : List (List AV)) (i c : Nat) : Option AV := match xs[i]? with | some r => r[c]? | none => none
def setCell (xs : List (List AV)) (i c : Nat) (v : AV) : List (List AV) := xs.modify i fun r => r.set c v

def navE : List (List AV) → Path → Option (List (List AV))
  | xs, [] => some xs
  | xs, (i, c) :: p => match cellAt xs i c with | some (.own _ ys) => navE ys p | _ => none
def navSet : List (List AV) → Path → List (List AV) → List (List AV)
  | _, [], zs => zs
  | xs, (i, c) :: p, zs => match cellAt xs i c with | some (.own fl ys) => setCell xs i c (.own fl (navSet ys p zs)) | _ => xs

/-- A place's block and content, where the reference is good. -/
def St.at (st : St) (lv s v : Nat) (p : Path) : Option (Blk × List (List AV)) := match st.blk lv s with
  | some b => if v = b.ver then (match navE b.elems p with | some ys => some (b, ys) | none => none) else none
  | none => none

/-- Makes a new block at a site that bears none. -/
def St.new (st : St) (s : Nat) (b : Blk) : Option St := match st.loc.get s with
  | none => some { st with loc := st.loc.set s (some b) }
  | some _ => none

/-! ### By value: what a call that only reads is handed -/
/-- References in a block are told from the block's own level. -/
def upR (k : Nat) (lv s v : Nat) (_ : Path) : Option (Nat × Nat × Nat) := some (lv + k, s, v)

def mapO (f : AV → Option AV) : List AV → Option (List AV)
  | [] => some []
  | v :: r => match f v, mapO f r with
    | some v', some r' => some (v' :: r')
    | _, _ => none
def reify (st : St) : Nat → AV → Option AV
  | 0, _ => none
  | n + 1, v => match v with
    | .sl lv s ver p off len => match st.at lv s ver p with
      | some (b, ys) => if off + len ≤ ys.length ∧ b.box = false then some (.rd b.fl (if b.fl then (ys.drop off).take len else AV.deepRows ((ys.drop off).take len))) else none
      | none => none
    | .ptr lv s ver p i c => match st.at lv s ver p with
      | some (b, ys) => match ys[i]? with
        | some row => if c ≤ row.length then
            if b.box then match mapO (reify st n) (AV.mapRs (upR lv) (row.drop c)) with
              | some cs => some (.rptr cs)
              | none => none
            else some (.rptr (AV.deepRow (row.drop c))) else none
        | none => none
      | none => none
    | .agg cs => match mapO (reify st n) cs with | some cs => some (.agg cs) | none => none
    | .fn f cs => match mapO (reify st n) cs with | some cs => some (.fn f cs) | none => none
    | .nil fl _ => some (.rd fl [])
    | .tup _ => none
    | .own _ _ => none
    | .skp => none
    | v => some v

/-- The cells of a value; of an unknown one, none. -/
def AV.cells : AV → Option (List AV)
  | .agg cs => some cs
  | .undef => none
  | .tup _ => none
  | .own _ _ => none
  | v => some [v]
def AV.ofCells (ag : Bool) (cs : List AV) : Option AV :=
  if ag then some (.agg cs) else match cs with | [v] => some v | _ => none

/-- Cells for a variable of the call's own: a nil slice gets a block (of no cells) of its own. -/
def boxCells (base : Nat) : List AV → Option (List AV × List (Nat × Blk))
  | [] => some ([], [])
  | v :: r => match boxCells (base + 1) r with
    | some (r', n) => match v with
      | .nil fl sz => some (.sl 0 base 0 [] 0 0 :: r', (base, { ver := 0, sz, box := false, fl, elems := [] }) :: n)
      | .own _ _ => none
      | v => some (v :: r', n)
    | none => none

/-- Cells for an element of a row of the call's own. -/
def rowCells (fl : Bool) : List AV → Option (List AV)
  | [] => some []
  | v :: r => match rowCells fl r with
    | some r' => match v with
      | .nil f _ => if fl then none else some (.own f [] :: r')
      | v => if v.scal then some (v :: r') else none
    | none => none

/-- An element's cells as they are handed on: what is owned inside, by its place. -/
def outCells (lv s ver : Nat) (p : Path) (i : Nat) : Nat → List AV → List AV
  | _, [] => []
  | c, v :: r => match v with
    | .own _ ys => .sl lv s ver (p ++ [(i, c)]) 0 ys.length :: outCells lv s ver p i (c + 1) r
    | v => v.mapR (upR lv) :: outCells lv s ver p i (c + 1) r

def zeroRow (zero : List AV) : List AV := zero.map fun v => match v with | .nil f _ => .own f [] | v => v

def bytesOf : List (List AV) → Option (List UInt8)
  | [] => some []
  | [.int .u8 n] :: r => match bytesOf r with | some l => some (UInt8.ofNat n.toNat :: l) | none => none
  | _ => none
def rowsOf (s : ByteArray) : List (List AV) := s.data.toList.map fun b => [.int .u8 b.toNat]

/-! ### Operators -/
def evalBin (op : BinOp) (x y : AV) : Option AV := match x, y with
  | .int k a, .int k' b => match op with
    | .shl => if 0 ≤ b then some (.int k (k.wrap (a * 2 ^ (Nat.min b.toNat k.bits)))) else none
    | .shr => if 0 ≤ b then some (.int k (a.fdiv (2 ^ (Nat.min b.toNat k.bits)))) else none
    | op => if k = k' then (match op with
      | .add => some (.int k (k.wrap (a + b)))
      | .sub => some (.int k (k.wrap (a - b)))
      | .mul => some (.int k (k.wrap (a * b)))
      | .quo => if b = 0 then none else some (.int k (k.wrap (a.tdiv b)))
      | .rem => if b = 0 then none else some (.int k (a.tmod b))
      | .and => some (.int k (k.wrap (BitVec.ofInt k.bits a &&& BitVec.ofInt k.bits b).toNat))
      | .or => some (.int k (k.wrap (BitVec.ofInt k.bits a ||| BitVec.ofInt k.bits b).toNat))
      | .xor => some (.int k (k.wrap (BitVec.ofInt k.bits a ^^^ BitVec.ofInt k.bits b).toNat))
      | .eql => some (.bool (a == b))
      | .neq => some (.bool (a != b))
      | .lss => some (.bool (a < b))
      | .leq => some (.bool (a ≤ b))
      | .gtr => some (.bool (a > b))
      | .geq => some (.bool (a ≥ b))
      | _ => none) else none
  | .str a, .str b => match op with
    | .add => if ((a.size + b.size : Nat) : Int) > IntKind.i64.max then none else some (.str (a ++ b))
    | .eql => some (.bool (a.toList == b.toList))
    | .neq => some (.bool (!(a.toList == b.toList)))
    | .lss => some (.bool (Op.bytesLess a.toList b.toList))
    | .leq => some (.bool (Op.bytesLess a.toList b.toList || a.toList == b.toList))
    | .gtr => some (.bool (!(Op.bytesLess a.toList b.toList || a.toList == b.toList)))
    | .geq => some (.bool (!(Op.bytesLess a.toList b.toList)))
    | _ => none
  | _, _ => none

/-- '==' of scalars, cell by cell. -/
def eqCell : K3 → AV → AV → Option Bool
  | .i, .int k a, .int k' b => if k = k' then some (a == b) else none
  | .b, .bool a, .bool b => some (a == b)
  | .s, .str a, .str b => some (a.toList == b.toList)
  | _, _, _ => none
def eqCells : List K3 → List AV → List AV → Option Bool
  | [], [], [] => some true
  | k :: ks, a :: r, b :: s => match eqCell k a b, eqCells ks r s with
    | some x, some y => some (x && y)
    | _, _ => none
  | _, _, _ => none
def evalEq (ag : Bool) (ks : List K3) (x y : AV) : Option Bool :=
  if ag then match x, y with
    | .agg a, .agg b => eqCells ks a b
    | _, _ => none
  else eqCells ks [x] [y]

def evalX (st : St) : X → AV
  | .t n => st.tmps.getD n .undef
  | .k v => v
def evalXs (st : St) : List X → List AV
  | [] => []
  | x :: r => evalX st x :: evalXs st r
def evalP (st : St) : List (Nat × X) → List (Nat × AV)
  | [] => []
  | (i, x) :: r => (i, evalX st x) :: evalP st r

def fillCells (st : St) (cs : List AV) : List (Nat × Nat × X) → Option (List AV)
  | [] => some cs
  | (off, n, x) :: r => match (evalX st x).cells with
    | some ws => if ws.length = n ∧ off + n ≤ cs.length then fillCells st (cs.take off ++ ws ++ cs.drop (off + n)) r else none
    | none => none
def fillRows (fl : Bool) (sz : Nat) (rows : List (List AV)) : List (Nat × AV) → Option (List (List AV))
  | [] => some rows
  | (i, v) :: r => match v.cells with
    | some ws => if i < rows.length ∧ ws.length = sz then match rowCells fl ws with
        | some cs => fillRows fl sz (rows.set i cs) r
        | none => none
      else none
    | none => none

/-- A bound of a cut. -/
def bound (d : Nat) (most : Nat) : Option AV → Option Nat
  | none => some d
  | some (.int _ n) => if 0 ≤ n ∧ n ≤ most then some n.toNat else none
  | some _ => none
def evalO (st : St) : Option X → Option AV
  | none => none
  | some x => some (evalX st x)

/-- What a call answers: its value (level 0: the places of what it made, in order), what it made, what the callers' memory is. -/
structure Res where
  val : AV
  blks : List Blk
  ext : List Heap
  deriving Inhabited

abbrev Oracle := Nat → List AV → List Heap → Option Res

mutual
/-- No place of one's own is in it. -/
def AV.stable : AV → Bool
  | .sl .. | .ptr .. | .own .. => false
  | .agg cs => AV.stables cs
  | .fn _ cs => AV.stables cs
  | .tup cs => AV.stables cs
  | _ => true
def AV.stables : List AV → Bool
  | [] => true
  | v :: r => v.stable && AV.stables r
end
mutual
/-- Something that is only read is in it. -/
def AV.bears : AV → Bool
  | .rd .. | .rptr _ => true
  | .agg cs => AV.bearss cs
  | .fn _ cs => AV.bearss cs
  | .tup cs => AV.bearss cs
  | _ => false
def AV.bearss : List AV → Bool
  | [] => false
  | v :: r => v.bears || AV.bearss r
end
def Blk.bears (b : Blk) : Bool := b.box && b.elems.any AV.bearss

/-- What an operation makes, laid into the memory. -/
def addNews (st : St) : List (Nat × Blk) → Option St
  | [] => some st
  | (s, b) :: r => match st.new s b with
    | some st' => addNews st' r
    | none => none
def numbered (base : Nat) : List Blk → List (Nat × Blk)
  | [] => []
  | b :: r => (base, b) :: numbered (base + 1) r

/-- How a function is handed what it is handed: by value; by reference, to be read; by reference. -/
inductive Mode where
  | val | view | ref
  deriving DecidableEq, Inhabited

def injR (base : Nat) (lv s v : Nat) (_ : Path) : Option (Nat × Nat × Nat) := match lv with
  | 0 => some (0, base + s, v)
  | n + 1 => some (n, s, v)
def Blk.mapR (g : Nat → Nat → Nat → Path → Option (Nat × Nat × Nat)) (b : Blk) : Blk :=
  if b.box then { b with elems := b.elems.map fun r => AV.mapRs g r } else b

def shiftR (lv s v : Nat) (_ : Path) : Option (Nat × Nat × Nat) := some (lv + 1, s, v)

def callVal (O : Oracle) (st : St) (base : Nat) (f : Nat) (args : List AV) (fl : Bool) : Option (AV × List (Nat × Blk)) :=
  match mapO (reify st 8) args with
  | some as => match O f as [] with
    | some r => if (fl && !r.blks.isEmpty) || !r.ext.isEmpty then none
      else if (r.val.bears || r.blks.any Blk.bears) && !(AV.stables args) then none
      else some (r.val.mapR (injR base), numbered base (r.blks.map (Blk.mapR (injR base))))
    | none => none
  | none => none
open Classical in
noncomputable def callView (O : Oracle) (st : St) (f : Nat) (args : List AV) : Option AV :=
  match O f (args.map (AV.mapR shiftR)) (st.loc :: st.ext) with
  | some r => if r.blks.isEmpty then (if r.ext = st.loc :: st.ext then some (r.val.mapR (injR 0)) else none) else none
  | none => none
def callRef (O : Oracle) (st : St) (base : Nat) (f : Nat) (args : List AV) (fl : Bool) : Option (AV × St) :=
  match O f (args.map (AV.mapR shiftR)) (st.loc :: st.ext) with
  | some r => if fl && !r.blks.isEmpty then none else
    match r.ext with
    | l :: e => match addNews { st with loc := l, ext := e } (numbered base (r.blks.map (Blk.mapR (injR base)))) with
      | some st' => some (r.val.mapR (injR base), st')
      | none => none
    | [] => none
  | none => none

/-- An operation that writes nothing: its value, what it makes. -/
noncomputable def evalQ (O : Oracle) (md : Nat → Mode) (st : St) (base : Nat) : I → Option (AV × List (Nat × Blk))
  | .mv x => some (evalX st x, [])
  | .nil0 fl sz => some (.sl 0 base 0 [] 0 0, [(base, { ver := 0, sz, box := false, fl, elems := [] })])
  | .pick c a b => match evalX st c with
    | .bool true => some (evalX st a, [])
    | .bool false => some (evalX st b, [])
    | _ => none
  | .alloc ws => match boxCells (base + 1) ws with
    | some (cs, n) => if cs.isEmpty then none else some (.ptr 0 base 0 [] 0 0, n ++ [(base, { ver := 0, sz := cs.length, box := true, fl := false, elems := [cs] })])
    | none => none
  | .box x => match (evalX st x).cells with
    | some ws => match boxCells (base + 1) ws with
      | some (cs, n) => if cs.isEmpty then none else some (.ptr 0 base 0 [] 0 0, n ++ [(base, { ver := 0, sz := cs.length, box := true, fl := false, elems := [cs] })])
      | none => none
    | none => none
  | .build zero parts => match fillCells st zero parts with
    | some cs => some (.agg cs, [])
    | none => none
  | .bslice fl sz zero len parts => match fillRows fl sz (List.replicate len (zeroRow zero)) (evalP st parts) with
    | some rows => if (fl = true → zero.all AV.scal) ∧ (zero.all fun v => v.scal || v.isNil) ∧ zero.length = sz then some (.sl 0 base 0 [] 0 len, [(base, { ver := 0, sz, box := false, fl, elems := rows })]) else none
    | none => none
  | .bsm fl sz _ len parts => match parts with
    | [(0, x)] => match (evalX st x).cells with
      | some ws => if ws.length = sz ∧ 0 < sz ∧ fl = false ∧ len = 1 then match boxCells (base + 1) ws with
          | some (cs, n) => some (.sl 0 base 0 [] 0 1, n ++ [(base, { ver := 0, sz, box := true, fl := false, elems := [cs] })])
          | none => none
        else none
      | none => none
    | _ => none
  | .load n ag x => match evalX st x with
    | .ptr lv s ver p i c => match st.at lv s ver p with
      | some (_, ys) => match ys[i]? with
        | some row => if c + n ≤ row.length then match AV.ofCells ag (outCells lv s ver p i c ((row.drop c).take n)) with
            | some v => some (v, [])
            | none => none
          else none
        | none => none
      | none => none
    | .rptr cs => if n ≤ cs.length then match AV.ofCells ag (cs.take n) with
        | some v => some (v, [])
        | none => none
      else none
    | _ => none
  | .strid x => match evalX st x with
    | .str s => some (.str s, [])
    | _ => none
  | .nilck x => match evalX st x with
    | .ptr lv s ver p i c => match st.at lv s ver p with
      | some _ => some (.ptr lv s ver p i c, [])
      | none => none
    | .rptr cs => some (.rptr cs, [])
    | .fn f cs => some (.fn f cs, [])
    | _ => none
  | .bin op x y => match evalBin op (evalX st x) (evalX st y) with
    | some v => some (v, [])
    | none => none
  | .eqv neg ag ks x y => match evalEq ag ks (evalX st x) (evalX st y) with
    | some b => some (.bool (if neg then !b else b), [])
    | none => none
  | .not x => match evalX st x with
    | .bool b => some (.bool (!b), [])
    | _ => none
  | .neg x => match evalX st x with
    | .int k n => some (.int k (k.wrap (0 - n)), [])
    | _ => none
  | .conv k x => match evalX st x with
    | .int _ n => some (.int k (k.wrap n), [])
    | _ => none
  | .s2b x => match evalX st x with
    | .str s => some (.sl 0 base 0 [] 0 s.size, [(base, { ver := 0, sz := 1, box := false, fl := true, elems := rowsOf s })])
    | _ => none
  | .b2s x => match evalX st x with
    | .sl lv s ver p off len => match st.at lv s ver p with
      | some (b, ys) => if off + len ≤ ys.length ∧ b.box = false then match bytesOf ((ys.drop off).take len) with
          | some l => some (.str ⟨l.toArray⟩, [])
          | none => none
        else none
      | none => none
    | .rd _ ys => match bytesOf ys with
      | some l => some (.str ⟨l.toArray⟩, [])
      | none => none
    | .nil _ _ => some (.str ByteArray.empty, [])
    | _ => none
  | .mkf f caps => some (.fn f (evalXs st caps), [])
  | .mksl fl sz bytes zero len cap => match evalX st len, evalX st cap with
    | .int .i64 n, .int .i64 m => if 0 ≤ n ∧ n ≤ m ∧ m * bytes ≤ 140737488355328 ∧ m ≤ 140737488355328 ∧ zero.length = sz ∧ (fl = true → zero.all AV.scal) ∧ (zero.all fun v => v.scal || v.isNil) then
        some (.sl 0 base 0 [] 0 n.toNat, [(base, { ver := 0, sz, box := false, fl, elems := List.replicate n.toNat (zeroRow zero) })])
      else none
    | _, _ => none
  | .cut sz x lo hi => match evalX st x with
    | .sl lv s ver p off len => match st.at lv s ver p with
      | some (b, ys) => if off + len ≤ ys.length ∧ b.box = false ∧ (p = [] → b.sz = sz) ∧ (p = [] ∨ ys.all fun r => r.length == sz) then
          match bound len len (evalO st hi) with
          | some h => match bound 0 h (evalO st lo) with
            | some l => some (.sl lv s ver p (off + l) (h - l), [])
            | none => none
          | none => none
        else none
      | none => none
    | .rd fl ys => if (ys.all fun r => r.length == sz) then match bound ys.length ys.length (evalO st hi) with
        | some h => match bound 0 h (evalO st lo) with
          | some l => some (.rd fl ((ys.take h).drop l), [])
          | none => none
        | none => none
      else none
    | .nil fl z => match bound 0 0 (evalO st hi) with
      | some h => match bound 0 h (evalO st lo) with
        | some _ => some (.nil fl z, [])
        | none => none
      | none => none
    | _ => none
  | .cut3 sz x lo hi m => match evalX st x, evalX st m with
    | .sl lv s ver [] off len, .int _ mm => match st.at lv s ver [] with
      | some (b, ys) => if off + len ≤ ys.length ∧ b.box = false ∧ b.sz = sz ∧ 0 ≤ mm ∧ mm ≤ len then match bound 0 mm.toNat (some (evalX st hi)) with
          | some h => match bound 0 h (evalO st lo) with
            | some l => some (.sl lv s ver [] (off + l) (h - l), [])
            | none => none
          | none => none
        else none
      | none => none
    | _, _ => none
  | .scut x lo hi => match evalX st x with
    | .str s => match bound s.size s.size (evalO st hi) with
      | some h => match bound 0 h (evalO st lo) with
        | some l => some (.str (s.extract l h), [])
        | none => none
      | none => none
    | _ => none
  | .faddr off x => match evalX st x with
    | .ptr lv s ver p i c => match st.at lv s ver p with
      | some _ => some (.ptr lv s ver p i (c + off), [])
      | none => none
    | .rptr cs => if off ≤ cs.length then some (.rptr (cs.drop off), []) else none
    | _ => none
  | .field off n ag x => match evalX st x with
    | .agg cs => if off + n ≤ cs.length then match AV.ofCells ag ((cs.drop off).take n) with
        | some v => some (v, [])
        | none => none
      else none
    | _ => none
  | .iaddr sz x i => match evalX st x, evalX st i with
    | .sl lv s ver p off len, .int _ n => if 0 ≤ n ∧ n < len then
        match st.at lv s ver p with
        | some (b, ys) => match ys[off + n.toNat]? with
          | some row => if row.length = sz ∧ b.box = false then some (.ptr lv s ver p (off + n.toNat) 0, []) else none
          | none => none
        | none => none
      else none
    | .rd _ ys, .int _ n => if 0 ≤ n then match ys[n.toNat]? with
        | some row => if row.length = sz then some (.rptr row, []) else none
        | none => none
      else none
    | _, _ => none
  | .idx x i => match evalX st x, evalX st i with
    | .str s, .int _ n => if 0 ≤ n then match s[n.toNat]? with
        | some b => some (.int .u8 b.toNat, [])
        | none => none
      else none
    | _, _ => none
  | .ext x i => match evalX st x with
    | .tup vs => match vs[i]? with
      | some v => some (v, [])
      | none => none
    | _ => none
  | .call f args fl => match md f with
    | .val => callVal O st base f (evalXs st args) fl
    | .view => match callView O st f (evalXs st args) with
      | some v => some (v, [])
      | none => none
    | .ref => none
  | .len true x => match evalX st x with
    | .str s => some (.int .i64 s.size, [])
    | _ => none
  | .len false x => match evalX st x with
    | .sl lv s ver p _ len => match st.at lv s ver p with
      | some _ => some (.int .i64 len, [])
      | none => none
    | .rd _ ys => some (.int .i64 ys.length, [])
    | .nil _ _ => some (.int .i64 0, [])
    | _ => none
  | .max x y => match evalX st x, evalX st y with
    | .int k a, .int k' b => if k = k' then some (.int k (if b > a then b else a), []) else none
    | _, _ => none
  | .min x y => match evalX st x, evalX st y with
    | .int k a, .int k' b => if k = k' then some (.int k (if b < a then b else a), []) else none
    | _, _ => none
  | _ => none

/-- The rows that an append appends, and the memory when they have been taken. -/
def source (st : St) : AV → Option (List (List AV))
  | .nil _ _ => some []
  | .rd true ys => some ys
  | .sl lv s ver p off len => match st.at lv s ver p with
    | some (b, ys) => if b.box = false ∧ off + len ≤ ys.length then
        if b.fl then some ((ys.drop off).take len) else none
      else none
    | none => none
  | _ => none

/-- An operation that may write. -/
noncomputable def evalW (O : Oracle) (md : Nat → Mode) (st : St) (base : Nat) : I → Option (AV × St)
  | .store n a x => match evalX st a, (evalX st x).cells with
    | .ptr lv s ver p i c, some ws => match st.at lv s ver p with
      | some (b, ys) => match ys[i]? with
        | some row => if c + n ≤ row.length ∧ ws.length = n ∧ ws.all AV.one then
            if b.box then
              if lv ≠ 0 then (if ws.all AV.scal then some (.skp, st.put lv s (some { b with elems := ys.set i (row.take c ++ ws ++ row.drop (c + n)) })) else none)
              else match boxCells (base + 1) ws with
              | some (cs, news) => match addNews st news with
                | some st' => some (.skp, st'.put lv s (some { b with elems := ys.set i (row.take c ++ cs ++ row.drop (c + n)) }))
                | none => none
              | none => none
            else match p with
              | [] => match rowCells b.fl ws with
                | some cs => some (.skp, st.put lv s (some { b with ver := if b.fl then b.ver else b.ver + 1, elems := ys.set i (row.take c ++ cs ++ row.drop (c + n)) }))
                | none => none
              | _ => none
          else none
        | none => none
      | none => none
    | _, _ => none
  | .call f args fl => match md f with
    | .ref => callRef O st base f (evalXs st args) fl
    | _ => none
  | .callv x args fl => match evalX st x with
    | .fn f caps => match md f with
      | .val => match callVal O st base f (evalXs st args ++ caps) fl with
        | some (v, n) => match addNews st n with
          | some st' => some (v, st')
          | none => none
        | none => none
      | .view => match callView O st f (evalXs st args ++ caps) with
        | some v => some (v, st)
        | none => none
      | .ref => callRef O st base f (evalXs st args ++ caps) fl
    | _ => none
  | .app fl sz bytes s x => match source st (evalX st x) with
    | some ys => if (ys.all fun r => r.length == sz) then match evalX st s with
      | .nil _ _ => if ys.length * bytes ≤ 140737488355328 ∧ ys.length ≤ 140737488355328 then
          match st.new base { ver := 0, sz, box := false, fl, elems := ys } with
          | some st' => some (.sl 0 base 0 [] 0 ys.length, st')
          | none => none
        else none
      | .sl lv s ver [] 0 len => match st.at lv s ver [] with
        | some (b, xs) => if b.box = false ∧ b.fl = fl ∧ b.sz = sz ∧ len = xs.length ∧ (xs.length + ys.length) * bytes ≤ 140737488355328 ∧ xs.length + ys.length ≤ 140737488355328 then
            some (.sl lv s (ver + 1) [] 0 (len + ys.length), st.put lv s (some { b with ver := b.ver + 1, elems := xs ++ ys }))
          else none
        | none => none
      | _ => none
      else none
    | none => none
  | .clr sz zero x => match evalX st x with
    | .sl lv s ver [] off len => match st.at lv s ver [] with
      | some (b, ys) => if b.box = false ∧ b.fl = true ∧ b.sz = sz ∧ off + len ≤ ys.length ∧ zero.length = sz ∧ zero.all AV.scal then
          some (.undef, st.put lv s (some { b with elems := ys.take off ++ List.replicate len zero ++ ys.drop (off + len) }))
        else none
      | none => none
    | _ => none
  | _ => none

/-- A cell's value as it is taken into a row: a whole row of one's own is moved, its place is empty behind it. -/
def moveCell (st : St) (lv s : Nat) : AV → Option (AV × St)
  | .sl 0 t ver [] 0 len => if lv = 0 ∧ t = s then none else match st.at 0 t ver [] with
    | some (b, ys) => if b.box = false ∧ len = ys.length then some (.own b.fl ys, st.put 0 t none) else none
    | none => none
  | .nil f _ => some (.own f [], st)
  | v => if v.scal then some (v, st) else none
def moveCells (st : St) (lv s : Nat) : List AV → Option (List AV × St)
  | [] => some ([], st)
  | v :: r => match moveCell st lv s v with
    | some (v', st1) => match moveCells st1 lv s r with
      | some (r', st2) => some (v' :: r', st2)
      | none => none
    | none => none
/-- What was empty comes to hold rows of scalars; else scalars. -/
def AV.own0 : AV → Bool
  | .own _ [] => true
  | _ => false
def AV.ownF : AV → Bool
  | .own true _ => true
  | _ => false
def fillOk : List AV → List AV → Bool
  | _, [] => true
  | [], _ :: _ => false
  | o :: os, v :: vs => (v.scal || (o.own0 && v.ownF)) && fillOk os vs
def storeM (st : St) (n : Nat) (a x : AV) : Option (AV × St) := match a, x.cells with
  | .ptr lv s ver p i c, some ws => match st.at lv s ver p with
    | some (b, ys) => match ys[i]? with
      | some row => if c + n ≤ row.length ∧ ws.length = n ∧ ws.all AV.one ∧ b.box = false ∧ b.fl = false then
          match p with
          | [] => if ws.all AV.scal ∧ ((row.drop c).take n).all AV.scal then some (.skp, st.put lv s (some { b with elems := ys.set i (row.take c ++ ws ++ row.drop (c + n)) }))
            else match moveCells st lv s ws with
            | some (cs, st1) => some (.skp, st1.put lv s (some { b with ver := if fillOk ((row.drop c).take n) cs then b.ver else b.ver + 1, elems := ys.set i (row.take c ++ cs ++ row.drop (c + n)) }))
            | none => none
          | [(k, d)] => match cellAt b.elems k d with
            | some (.own true _) => if ws.all AV.scal then some (.skp, st.put lv s (some { b with elems := setCell b.elems k d (.own true (ys.set i (row.take c ++ ws ++ row.drop (c + n)))) })) else none
            | _ => none
          | _ => none
        else none
      | none => none
    | none => none
  | _, _ => none
/-- An append of one element whose cells lead to rows of one's own. -/
def appM2 (st : St) (sz bytes : Nat) (lv s ver len t tv : Nat) : Option (AV × St) := match st.at lv s ver [], st.at 0 t tv [] with
  | some (b, xs), some (bx, [row]) => if b.box = false ∧ b.fl = false ∧ b.sz = sz ∧ len = xs.length ∧ bx.box = true ∧ row.length = sz ∧ row.all AV.one ∧ (xs.length + 1) * bytes ≤ 140737488355328 ∧ xs.length + 1 ≤ 140737488355328 then
      match moveCells st lv s row with
      | some (cs, st1) => some (.sl lv s (ver + 1) [] 0 (len + 1), st1.put lv s (some { b with ver := b.ver + 1, elems := xs ++ [cs] }))
      | none => none
    else none
  | _, _ => none
def appM (st : St) (base : Nat) (fl : Bool) (sz bytes : Nat) (s x : AV) : Option (AV × St) := match x with
  | .sl 0 t tv [] 0 1 => match s with
    | .nil _ _ => if fl = false then match st.new base { ver := 0, sz, box := false, fl := false, elems := [] } with
        | some st0 => appM2 st0 sz bytes 0 base 0 0 t tv
        | none => none
      else none
    | .sl lv s ver [] 0 len => appM2 st sz bytes lv s ver len t tv
    | _ => none
  | _ => none
/-- An append to a part of a row: what lay behind it is forgotten. -/
def appC (st : St) (fl : Bool) (sz bytes : Nat) (s x : AV) : Option (AV × St) := match source st x with
  | some ys => if (ys.all fun r => r.length == sz) then match s with
    | .sl lv t ver [] 0 len => match st.at lv t ver [] with
      | some (b, xs) => if b.box = false ∧ b.fl = true ∧ b.sz = sz ∧ len ≤ xs.length ∧ (len + ys.length) * bytes ≤ 140737488355328 ∧ len + ys.length ≤ 140737488355328 then
          some (.sl lv t (ver + 1) [] 0 (len + ys.length), st.put lv t (some { b with ver := b.ver + 1, elems := xs.take len ++ ys }))
        else none
      | none => none
    | _ => none
    else none
  | none => none
def cutmH (st : St) (len : Nat) (hi : AV) : Option AV → Option Nat
  | none => bound len len (some hi)
  | some (.int _ mm) => if 0 ≤ mm ∧ mm ≤ len then bound 0 mm.toNat (some hi) else none
  | some _ => none
def cutM (st : St) (sz : Nat) (x hi : AV) (m : Option AV) : Option (AV × St) := match x with
  | .sl lv t ver [] 0 len => match st.at lv t ver [] with
    | some (b, xs) => if b.box = false ∧ b.fl = true ∧ b.sz = sz ∧ len ≤ xs.length ∧ 0 < sz then match cutmH st len hi m with
        | some h => some (.sl lv t (ver + 1) [] 0 h, st.put lv t (some { b with ver := b.ver + 1, elems := xs.take h }))
        | none => none
      else none
    | none => none
  | _ => none
/-- An operation that may write, the moving ones among them. -/
noncomputable def evalV (O : Oracle) (md : Nat → Mode) (st : St) (base : Nat) (op : I) : Option (AV × St) := match op with
  | .stm n a x => match storeM st n (evalX st a) (evalX st x) with
    | some r => some r
    | none => evalW O md st base (.store n a x)
  | .apm fl sz bytes s x => match evalW O md st base (.app fl sz bytes s x) with
    | some r => some r
    | none => match appM st base fl sz bytes (evalX st s) (evalX st x) with
      | some r => some r
      | none => appC st fl sz bytes (evalX st s) (evalX st x)
  | .cutm sz x hi m => cutM st sz (evalX st x) (evalX st hi) (evalO st m)
  | op => evalW O md st base op

def writes (md : Nat → Mode) : I → Bool
  | .store .. | .app .. | .callv .. | .stm .. | .apm .. | .clr .. | .cutm .. => true
  | .call f _ _ => md f == .ref
  | _ => false

/-- The places that a store or an append writes to, or takes whole. -/
def wplaces (st : St) : I → List (Nat × Nat)
  | .store _ a x => (match evalX st a with | .ptr lv s _ _ _ _ => [(lv, s)] | _ => []) ++ (((evalX st x).cells.getD []).filterMap fun | .sl lv s _ _ _ _ => some (lv, s) | _ => none)
  | .app _ _ _ s x => (match evalX st s with | .sl lv s _ _ _ _ => [(lv, s)] | _ => []) ++ (match evalX st x with | .sl lv s _ _ _ _ => [(lv, s)] | _ => [])
  | _ => []
def apartOk (st : St) (op : I) : List X → Bool
  | [] => true
  | x :: r => (match evalX st x with
    | .ptr lv s _ _ _ _ => !(wplaces st op).contains (lv, s)
    | .sl lv s _ _ _ _ => !(wplaces st op).contains (lv, s)
    | .rptr _ | .rd .. | .nil .. => true
    | _ => false) && apartOk st op r

/-- The one place that it reads. -/
def readsAt : I → Option X
  | .load _ _ a | .b2s a | .cut _ a _ _ | .cut3 _ a _ _ _ | .iaddr _ a _ | .len false a | .nilck a | .faddr _ a => some a
  | _ => none
def placeOf : AV → Option (Nat × Nat)
  | .sl lv s _ _ _ _ => some (lv, s)
  | .ptr lv s _ _ _ _ => some (lv, s)
  | _ => none
/-- Its place is that of each of these. -/
def rootsOk (st : St) (a : X) : List X → Bool
  | [] => true
  | x :: r => (placeOf (evalX st x) == placeOf (evalX st a)) && rootsOk st a r
/-- The places of these are there. -/
def keyedOk (st : St) : List X → Bool
  | [] => true
  | x :: r => (match placeOf (evalX st x) with
    | some (lv, s) => ((st.heap lv).get s).isSome
    | none => true) && keyedOk st r
/-- What the hints of an operation that writes nothing say. -/
def quietOk (st : St) (op : I) (ap : List X) : Bool := match readsAt op with
  | some a => rootsOk st a ap
  | none => keyedOk st ap

def St.setT (st : St) (d : Option Nat) (v : AV) : St := match d with
  | some d => { st with tmps := st.tmps.set d v }
  | none => st

inductive Ex where
  | normal
  | exit (id : Nat)
  | ret

/-- The blocks at the places of these are as they were. -/
def keptL (st st' : St) : List X → Prop
  | [] => True
  | x :: r => (match placeOf (evalX st x) with
    | some (lv, s) => (st'.heap lv).get s = (st.heap lv).get s
    | none => True) ∧ keptL st st' r
/-- What the hints of a call say. -/
def keptOk (st st' : St) (op : I) (ap : List X) : Prop := match op with
  | .call .. => keptL st st' ap
  | _ => True
open Classical in
/-- An operation that writes, and what its hints say of what it leaves. -/
noncomputable def evalK (O : Oracle) (md : Nat → Mode) (st : St) (base : Nat) (op : I) (ap : List X) : Option (AV × St) := match evalV O md st base op with
  | some (v, st') => if keptOk st st' op ap then some (v, st') else none
  | none => none
theorem evalK_some {O : Oracle} {md : Nat → Mode} {st st' : St} {base : Nat} {op : I} {ap : List X} {v : AV} : evalK O md st base op ap = some (v, st') ↔ evalV O md st base op = some (v, st') ∧ keptOk st st' op ap := by
  unfold evalK
  cases h : evalV O md st base op with
  | none => simp
  | some q =>
    obtain ⟨u, s⟩ := q
    simp only
    split
    · rename_i hk
      constructor
      · intro e; cases e; exact ⟨rfl, hk⟩
      · rintro ⟨e, _⟩; exact e
    · rename_i hk
      constructor
      · intro e; cases e
      · rintro ⟨e, h2⟩; cases e; exact absurd h2 hk
/-- One operation; none: the evaluator does not know. -/
noncomputable def evalI (O : Oracle) (md : Nat → Mode) (o : IOp) (st : St) : Option St :=
  if writes md o.op then
    if apartOk st o.op o.apart && keyedOk st o.apart then match evalK O md st o.base o.op o.apart with
      | some (v, st') => some (st'.setT o.dst v)
      | none => none
    else none
  else if quietOk st o.op o.apart then match evalQ O md st o.base o.op with
    | some (v, n) => match addNews st n with
      | some st' => some (st'.setT o.dst v)
      | none => none
    | none => none
  else none

def guardOf (st : St) : Option (Option Nat × Bool) → Option Bool
  | none => some true
  | some (none, _) => some false
  | some (some t, want) => match st.tmps[t]? with
    | some (.bool b) => some (b == want)
    | some .skp => some false
    | _ => none

noncomputable def evalOp (O : Oracle) (md : Nat → Mode) (o : IOp) (st : St) : Option St :=
  match guardOf st o.g with
  | some true => evalI O md o st
  | some false => some (st.setT o.dst .skp)
  | none => none

noncomputable def evalOps (O : Oracle) (md : Nat → Mode) : List IOp → St → Option St
  | [], st => some st
  | o :: r, st => match evalOp O md o st with
    | some st' => evalOps O md r st'
    | none => none

/-! ### A round's head: what is dead is forgotten -/
def scrubR (st : St) (keepS : List Nat) (lv s v : Nat) (_ : Path) : Option (Nat × Nat × Nat) := match lv with
  | 0 => if keepS.contains s then match st.blk 0 s with
      | some b => if v = b.ver then some (0, s, 0) else none
      | none => none
    else none
  | n + 1 => some (n + 1, s, v)
def cleanT (st : St) (keepT keepS : List Nat) : Nat → List AV → List AV
  | _, [] => []
  | i, v :: r => (if keepT.contains i then v.mapR (scrubR st keepS) else .undef) :: cleanT st keepT keepS (i + 1) r
def cleanH (st : St) (keepS : List Nat) : Heap → Heap
  | [] => []
  | (s, b) :: r => if keepS.contains s then (s, match b with | some b => some { Blk.mapR (scrubR st keepS) b with ver := 0 } | none => none) :: cleanH st keepS r else cleanH st keepS r
def St.clean (keepT keepS : List Nat) (st : St) : St :=
  { tmps := cleanT st keepT keepS 0 st.tmps, loc := cleanH st keepS st.loc, ext := st.ext }

/-- What block s was is block t from now on. -/
def renR (st : St) (s t : Nat) (lv x v : Nat) (_ : Path) : Option (Nat × Nat × Nat) := match lv with
  | 0 => if x = s then (match st.blk 0 s with
      | some b => if v = b.ver then some (0, t, 0) else none
      | none => none)
    else if x = t then none else some (0, x, v)
  | n + 1 => some (n + 1, x, v)
def renN (st : St) (s t : Nat) : Option Blk := match st.blk 0 s with
  | some b => some { Blk.mapR (renR st s t) b with ver := 0 }
  | none => none
def renH (st : St) (s t : Nat) : Heap → Heap
  | [] => []
  | (x, b) :: r => if x = s then renH st s t r else if x = t then renH st s t r else (x, match b with | some b => some (Blk.mapR (renR st s t) b) | none => none) :: renH st s t r
def St.ren (s t : Nat) (st : St) : St := { tmps := st.tmps.map (AV.mapR (renR st s t)), loc := (renH st s t st.loc).set t (renN st s t), ext := st.ext }
def renOk (st : St) (s t : Nat) : Bool := s != t && (st.blk 0 s).isSome

def iter (clean : St → St) (step : St → Option (Ex × St)) : Nat → St → Option (Ex × St)
  | 0, _ => none
  | n + 1, st => match step (clean st) with
    | some (.normal, st') => iter clean step n st'
    | r => r

def LF : Nat := 18446744073709551616

noncomputable def exec (O : Oracle) (md : Nat → Mode) : C → St → Option (Ex × St)
  | .skip, st => some (.normal, st)
  | .reg ops, st => match evalOps O md ops st with
    | some st' => some (.normal, st')
    | none => none
  | .seq a b, st => match exec O md a st with
    | some (.normal, st') => exec O md b st'
    | r => r
  | .cond c a b, st => match evalX st c with
    | .bool true => exec O md a st
    | .bool false => exec O md b st
    | _ => none
  | .block id c, st => match exec O md c st with
    | some (.exit j, st') => if j = id then some (.normal, st') else some (.exit j, st')
    | r => r
  | .loop kt ks c, st => iter (St.clean kt ks) (exec O md c) LF st
  | .exit id, st => some (.exit id, st)
  | .ret, st => some (.ret, st)
  | .ifnil .., _ => none
  | .ren s t, st => if renOk st s t then some (.normal, st.ren s t) else none

def AV.slice : AV → Bool
  | .nil .. | .rd .. | .sl .. => true
  | _ => false
/-- Surely not nil. -/
def nonNil (st : St) : AV → Bool
  | .rd _ ((_ :: _) :: _) => true
  | .sl lv s ver p _ len => decide (0 < len) && (st.at lv s ver p).isSome
  | _ => false
def bindAll {α β : Type} (f : α → Option (List β)) : List α → Option (List β)
  | [] => some []
  | a :: r => match f a, bindAll f r with
    | some l, some m => some (l ++ m)
    | _, _ => none
/-- All that it may come to, where it is asked whether a slice is nil. -/
noncomputable def execs (O : Oracle) (md : Nat → Mode) : C → St → Option (List (Ex × St))
  | .seq a b, st => match execs O md a st with
    | some l => bindAll (fun p => match p.1 with
      | .normal => execs O md b p.2
      | e => some [(e, p.2)]) l
    | none => none
  | .cond c a b, st => match evalX st c with
    | .bool true => execs O md a st
    | .bool false => execs O md b st
    | _ => none
  | .block id c, st => match execs O md c st with
    | some l => some (l.map fun p => match p.1 with
      | .exit j => if j = id then (.normal, p.2) else p
      | _ => p)
    | none => none
  | .ifnil neg d x a b, st => if (evalX st x).slice && decide (d < st.tmps.length) then
      if nonNil st (evalX st x) then (if neg then execs O md a (st.setT (some d) .undef) else execs O md b (st.setT (some d) .undef))
      else match execs O md a (st.setT (some d) .undef), execs O md b (st.setT (some d) .undef) with
      | some l, some m => some (l ++ m)
      | _, _ => none
    else none
  | c, st => match exec O md c st with
    | some p => some [p]
    | none => none

/-! ### A call -/
def evalRV (st : St) : RV → Option AV
  | .t n => some (st.tmps.getD n .undef)
  | .cell a n ag => match st.tmps.getD a .undef with
    | .ptr lv s ver p i c => match st.at lv s ver p with
      | some (_, ys) => match ys[i]? with
        | some row => if c + n ≤ row.length then AV.ofCells ag (outCells lv s ver p i c ((row.drop c).take n)) else none
        | none => none
      | none => none
    | _ => none
def evalRVs (st : St) : List RV → Option (List AV)
  | [] => some []
  | r :: rs => match evalRV st r, evalRVs st rs with
    | some v, some vs => some (v :: vs)
    | _, _ => none

/-- The sites of its own that a value leads to. -/
def reach (st : St) : Nat → AV → List Nat
  | 0, _ => []
  | n + 1, v => match v with
    | .sl 0 s _ _ _ _ => [s]
    | .ptr 0 s _ _ _ _ => match st.blk 0 s with
      | some b => if b.box then s :: (b.elems.flatten).flatMap (reach st n) else [s]
      | none => []
    | .agg cs => cs.flatMap (reach st n)
    | .fn _ cs => cs.flatMap (reach st n)
    | .tup cs => cs.flatMap (reach st n)
    | _ => []
def outR (st : St) (sites : List Nat) (lv s v : Nat) (_ : Path) : Option (Nat × Nat × Nat) := match lv with
  | 0 => match st.blk 0 s with
    | some b => if v = b.ver ∧ sites.contains s then some (0, sites.idxOf s, 0) else none
    | none => none
  | n + 1 => some (n + 1, s, v)
def outBlks (st : St) (sites : List Nat) : List Nat → Option (List Blk)
  | [] => some []
  | s :: r => match st.blk 0 s, outBlks st sites r with
    | some b, some bs => some ({ Blk.mapR (outR st sites) b with ver := 0 } :: bs)
    | _, _ => none
def finish (st : St) (v : AV) : Option Res :=
  if (reach st 8 v).eraseDups.Nodup then
    match outBlks st (reach st 8 v).eraseDups (reach st 8 v).eraseDups with
    | some bs => some { val := v.mapR (outR st (reach st 8 v).eraseDups), blks := bs, ext := st.ext }
    | none => none
  else none

def finOf (res : List RV) (p : Ex × St) : Option Res := match p.1 with
  | .exit _ => none
  | _ => match evalRVs p.2 res with
    | some [v] => finish p.2 v
    | some vs => finish p.2 (.tup vs)
    | none => none
open Classical in
noncomputable def runF (O : Oracle) (md : Nat → Mode) (fn : F) (args : List AV) (E : List Heap) : Option Res :=
  if args.length = fn.np then
    match execs O md fn.body { tmps := args ++ List.replicate (fn.ntmps - args.length) .skp, loc := [], ext := E } with
    | some (p :: l) => match finOf fn.res p with
      | some r => if ∀ q ∈ l, finOf fn.res q = some r then some r else none
      | none => none
    | _ => none
  else none

structure Prog where
  fn : Nat → Option F
  md : Nat → Mode
  nat : Nat → Option (List AV → Option (AV × List Blk))
  /-- Natives that are handed what they are handed by reference. -/
  natR : Nat → Option (List AV → List Heap → Option Res) := fun _ => none

/-- A call, n deep at most. -/
noncomputable def call (p : Prog) : Nat → Oracle
  | 0, _, _, _ => none
  | n + 1, f, args, E => match p.nat f with
    | some g => match g args with
      | some (v, bs) => some { val := v, blks := bs, ext := E }
      | none => none
    | none => match p.natR f with
      | some g => g args E
      | none => match p.fn f with
        | some fn => runF (call p n) p.md fn args E
        | none => none
end Go.Ae
namespace Go.Ae
set_option linter.unusedVariables false
set_option linter.unusedSimpArgs false

def tyD : Nat := 24
def flatT (P : Program) : Nat → TypeId → Bool
  | 0, _ => false
  | d + 1, t => match P.underlying t with
    | some .bool | some (.int _) | some .string => true
    | some (.struct fs) => fs.toList.all fun f => flatT P d f.type
    | _ => false
def zeroT (P : Program) : Nat → TypeId → Option (List AV)
  | 0, _ => none
  | d + 1, t => match P.underlying t with
    | some .bool => some [.bool false]
    | some (.int k) => some [.int k 0]
    | some .string => some [.str ByteArray.empty]
    | some (.slice e) => some [.nil (flatT P tyD e) (P.cellsOf e)]
    | some (.struct fs) => fs.toList.foldr (fun f acc => match zeroT P d f.type, acc with | some a, some b => some (a ++ b) | _, _ => none) (some [])
    | some (.pointer _) | some (.func ..) => some [.undef]
    | _ => none
def zeroCellOk : AV → Value → Bool
  | .int k n, .int k' n' => k == k' && n == n'
  | .bool b, .bool b' => b == b'
  | .str s, .string s' => s.toList.isEmpty && s'.toList.isEmpty && s.size == 0 && s'.size == 0
  | .nil _ _, .slice none 0 0 => true
  | .undef, _ => true
  | _, _ => false
def zerosOk : List AV → List Value → Bool
  | [], [] => true
  | a :: r, b :: s => zeroCellOk a b && zerosOk r s
  | _, _ => false
/-- The cells of a type's zero value, held against the program's own. -/
def zeroOf (P : Program) (t : TypeId) : Option (List AV) := match zeroT P tyD t, P.info? t with
  | some cs, some i => match i.zero with
    | some z => if zerosOk cs z.cells.toList && cs.length == i.size then some cs else none
    | none => none
  | _, _ => none
def aggT (P : Program) (t : TypeId) : Option Bool := match P.underlying t with
  | some (.struct _) => some true
  | some (.array _ _) => none
  | some _ => some false
  | none => none

def cV (P : Program) (t : TypeId) : Value → Option AV
  | .int k n => some (.int k n)
  | .bool b => some (.bool b)
  | .string s => some (.str s)
  | .slice none 0 0 => match P.underlying t with
    | some (.slice e) => some (.nil (flatT P tyD e) (P.cellsOf e))
    | _ => none
  | .agg cs => match zeroT P tyD t with
    | some zs => if zerosOk zs cs.toList then some (.agg zs) else none
    | none => none
  | .tuple vs => if vs.isEmpty then some .skp else none
  | .pointer none => some .undef
  | .nilFunc => some .undef
  | _ => none
def cX (P : Program) (t : TypeId) : Operand → Option X
  | .tmp n => some (.t n)
  | .const v => (cV P t v).map .k
  | .func f => some (.k (.fn f []))
  | .global _ => none
def cXs (P : Program) : List (Operand × TypeId) → Option (List X)
  | [] => some []
  | (x, t) :: r => match cX P t x, cXs P r with
    | some a, some b => some (a :: b)
    | _, _ => none
def cO (P : Program) : Option Operand → Option (Option X)
  | none => some none
  | some x => (cX P 0 x).map some

/-- A type whose '==' goes cell by cell: the cells' kinds. -/
def eqFieldsK (P : Program) (rec : TypeId → Option (List K3)) : Nat → List Field → Option (List K3)
  | _, [] => some []
  | off, f :: r => if f.offset = off ∧ f.name ≠ "_" then match rec f.type, P.info? f.type, aggT P f.type with
      | some ks, some i, some ag => if ks.length = i.size ∧ (ag = true ∨ i.size = 1) ∧ 0 < i.size then match eqFieldsK P rec (off + i.size) r with
          | some l => some (ks ++ l)
          | none => none
        else none
      | _, _, _ => none
    else none
def eqKinds (P : Program) : Nat → TypeId → Option (List K3)
  | 0, _ => none
  | d + 1, t => match P.underlying t with
    | some .bool => some [.b]
    | some (.int _) => some [.i]
    | some .string => some [.s]
    | some (.struct fs) => if P.stoodInHeld t then none else eqFieldsK P (eqKinds P d) 0 fs.toList
    | _ => none
def eqFlat (P : Program) (t : TypeId) : Option (Bool × List K3) := match P.underlying t with
  | some .bool => some (false, [.b])
  | some (.struct _) => if P.eqGuardType P.depth t then none else (eqKinds P 12 t).map fun ks => (true, ks)
  | _ => none
def resFlat (P : Program) (t : TypeId) : Bool := match P.underlying t with
  | some (.tuple ts) => ts.toList.all fun t => flatT P tyD t
  | _ => flatT P tyD t

def cI (P : Program) (o : Oper) : Option I := match o.op with
  | .move x => (cX P o.type x).map .mv
  | .assign x => match cX P o.type x with
    | some (.k (.nil fl sz)) => some (.nil0 fl sz)
    | some y => some (.mv y)
    | none => none
  | .pick c a b => match cX P 0 c, cX P o.type a, cX P o.type b with
    | some c, some a, some b => some (.pick c a b)
    | _, _, _ => none
  | .alloc e => match zeroOf P e, aggT P e with
    | some cs, some _ => some (.alloc cs)
    | _, _ => none
  | .box e x => (cX P e x).map .box
  | .build t parts => match zeroOf P t, P.underlying t with
    | some zero, some (.struct fs) => if !(fs.all fun f => (P.info? f.type).isSome) then none else match parts.toList.foldr (fun p acc => match fs[p.1]?, acc with
        | some f, some l => match cX P f.type p.2, P.info? f.type with | some x, some i => some ((f.offset, i.size, x) :: l) | _, _ => none
        | _, _ => none) (some []) with
      | some l => some (.build zero l)
      | none => none
    | _, _ => none
  | .buildSlice t len parts => match P.underlying t with
    | some (.slice e) => match zeroOf P e with
      | some zero => match parts.toList.foldr (fun p acc => match cX P e p.2, acc with | some x, some l => some ((p.1, x) :: l) | _, _ => none) (some []) with
        | some l => if 0 < zero.length ∧ len * zero.length ≤ 16777216 then some (.bslice (flatT P tyD e) zero.length zero len l) else none
        | none => none
      | none => none
    | _ => none
  | .load t a => match cX P 0 a, aggT P t, P.info? t with
    | some x, some ag, some i => if 0 < i.size ∧ (ag = true ∨ i.size = 1) then some (.load i.size ag x) else none
    | _, _, _ => none
  | .store t a x => match cX P 0 a, cX P t x, P.info? t with
    | some a, some x, some i => if 0 < i.size then some (.store i.size a x) else none
    | _, _, _ => none
  | .nilCheck x => (cX P 0 x).map .nilck
  | .binOp op xt x y yt => match op with
    | .eql | .neq => match P.underlying xt with
      | some (.int _) | some .string => match cX P xt x, cX P yt y with
        | some x, some y => some (.bin op x y)
        | _, _ => none
      | _ => match eqFlat P xt, cX P xt x, cX P yt y with
          | some ks, some x, some y => some (.eqv (match op with | .neq => true | _ => false) ks.1 ks.2 x y)
          | _, _, _ => none
    | op => match cX P xt x, cX P yt y with
      | some x, some y => some (.bin op x y)
      | _, _ => none
  | .unOp .not t x => (cX P t x).map .not
  | .unOp .neg t x => (cX P t x).map .neg
  | .convert src dst x => match P.underlying src, P.underlying dst, cX P src x with
    | some (.int _), some (.int k), some x => some (.conv k x)
    | some .string, some .string, some x => some (.strid x)
    | some .string, some (.slice e), some x => match P.underlying e with
      | some (.int .u8) => if P.cellsOf e = 1 then some (.s2b x) else none
      | _ => none
    | some (.slice e), some .string, some x => match P.underlying e with
      | some (.int .u8) => some (.b2s x)
      | _ => none
    | _, _, _ => none
  | .makeFunc (.func f) first captured => if first.isEmpty then match cXs P (captured.toList.map fun x => (x, 0)) with
      | some cs => some (.mkf f cs)
      | none => none
    else none
  | .makeSlice t len cap => match P.underlying t with
    | some (.slice e) => match zeroOf P e, P.info? e, cX P 0 len, cX P 0 cap with
      | some zero, some i, some l, some c => if 0 < zero.length then some (.mksl (flatT P tyD e) zero.length i.bytes zero l c) else none
      | _, _, _, _ => none
    | _ => none
  | .slice t x lo hi none => match P.underlying t, cX P t x, cO P lo, cO P hi with
    | some .string, some x, some lo, some hi => some (.scut x lo hi)
    | some (.slice e), some x, some lo, some hi => match P.info? e with
      | some i => some (.cut i.size x lo hi)
      | none => none
    | _, _, _, _ => none
  | .slice t x lo (some hi) (some m) => match P.underlying t, cX P t x, cO P lo, cX P 0 hi, cX P 0 m with
    | some (.slice e), some x, some lo, some hi, some m => match P.info? e with
      | some i => some (.cut3 i.size x lo hi m)
      | none => none
    | _, _, _, _, _ => none
  | .fieldAddr s x f => match P.underlying s, cX P 0 x with
    | some (.struct fs), some x => match fs[f]? with
      | some fd => match P.info? fd.type with
        | some i => if 0 < i.size then some (.faddr fd.offset x) else none
        | none => none
      | none => none
    | _, _ => none
  | .field s x f => match P.underlying s, cX P s x with
    | some (.struct fs), some x => match fs[f]? with
      | some fd => match P.info? fd.type, aggT P fd.type with
        | some i, some ag => if ag = true ∨ i.size = 1 then some (.field fd.offset i.size ag x) else none
        | _, _ => none
      | none => none
    | _, _ => none
  | .indexAddr t x i => match P.underlying t, cX P t x, cX P 0 i with
    | some (.slice e), some x, some i => match P.info? e with
      | some inf => if 0 < inf.size then some (.iaddr inf.size x i) else none
      | none => none
    | _, _, _ => none
  | .index t x i => match P.underlying t, cX P t x, cX P 0 i with
    | some .string, some x, some i => some (.idx x i)
    | _, _, _ => none
  | .extract x i => (cX P 0 x).map (.ext · i)
  | .call c => match c.callee with
    | .value (.func f) => match cXs P (c.args.toList.zip c.argTypes.toList) with
      | some xs => if c.args.size = c.argTypes.size then some (.call f xs (resFlat P o.type)) else none
      | none => none
    | .value (.tmp t) => match cXs P (c.args.toList.zip c.argTypes.toList) with
      | some xs => if c.args.size = c.argTypes.size then some (.callv (.t t) xs (resFlat P o.type)) else none
      | none => none
    | .builtin .len => match c.args.toList, c.argTypes.toList with
      | [x], [t] => match P.underlying t, cX P t x with
        | some .string, some x => some (.len true x)
        | some (.slice _), some x => some (.len false x)
        | _, _ => none
      | _, _ => none
    | .builtin .append => match c.args.toList, c.argTypes.toList with
      | [s, x], [t, u] => match P.underlying t, P.underlying u, cX P t s, cX P u x with
        | some (.slice e), some (.slice _), some s, some x => match P.info? e, zeroOf P e with
          | some i, some _ => if 0 < i.size ∧ i.bytes < 1000000 then some (.app (flatT P tyD e) i.size i.bytes s x) else none
          | _, _ => none
        | _, _, _, _ => none
      | _, _ => none
    | .builtin .clear => match c.args.toList, c.argTypes.toList with
      | [x], [t] => match P.underlying t, cX P t x with
        | some (.slice e), some x => match zeroOf P e with
          | some zero => if flatT P tyD e = true ∧ 0 < zero.length then some (.clr zero.length zero x) else none
          | none => none
        | _, _ => none
      | _, _ => none
    | .builtin .max => match c.args.toList, c.argTypes.toList with
      | [x, y], [t, u] => match cX P t x, cX P u y with
        | some x, some y => some (.max x y)
        | _, _ => none
      | _, _ => none
    | .builtin .min => match c.args.toList, c.argTypes.toList with
      | [x, y], [t, u] => match cX P t x, cX P u y with
        | some x, some y => some (.min x y)
        | _, _ => none
      | _, _ => none
    | _ => none
  | _ => none

/-- One operation of the text, i its place. -/
def cOp (P : Program) (ops : Array Oper) (rid i : Nat) (o : Oper) : Option IOp := match cI P o with
  | some op => some { dst := o.dst, op, g := o.guard.map fun g => ((ops[g.1]?).bind (·.dst), g.2), base := (rid * 256 + i) * 256, ix := i, apart := [] }
  | none => none
def cOps (P : Program) (ops : Array Oper) (rid : Nat) : Nat → List Oper → Option (List IOp)
  | _, [] => some []
  | i, o :: r => match cOp P ops rid i o, cOps P ops rid (i + 1) r with
    | some op, some rest => some (op :: rest)
    | _, _ => none

/-- Memory: reads it, writes it, makes some. -/
structure Mem where
  t : Bool
  w : Bool
  k : Bool
  v : Bool
def memOf (md : Nat → Mode) : I → Mem
  | .load .. | .b2s _ | .cut .. | .cut3 .. | .iaddr .. | .len false _ | .nilck _ | .faddr .. => ⟨true, false, false, false⟩
  | .store .. | .app .. => ⟨true, true, true, false⟩
  | .callv .. | .stm .. | .apm .. | .clr .. | .cutm .. => ⟨true, true, true, true⟩
  | .bslice .. | .bsm .. => ⟨false, false, true, false⟩
  | .alloc _ | .box _ | .nil0 .. | .s2b _ | .mksl .. => ⟨false, false, true, false⟩
  | .call f _ fl => match md f with
    | .ref => ⟨true, true, true, true⟩
    | .view => ⟨true, false, false, true⟩
    | .val => ⟨true, false, !fl, false⟩
  | _ => ⟨false, false, false, false⟩
/-- Looks at no memory, changes none, makes none. -/
def Mem.pure (x : Mem) : Bool := !x.t && !x.w && !x.k && !x.v
/-- x is done ahead of y: may they change places? -/
def Mem.free (x y : Mem) : Bool := !x.w && !y.w && !(x.k && y.t) && !(x.v && y.k)
def xTmp : X → List Nat
  | .t n => [n]
  | .k _ => []
def oTmp : Option X → List Nat
  | none => []
  | some x => xTmp x
def I.reads : I → List Nat
  | .mv x | .box x | .load _ _ x | .nilck x | .not x | .neg x | .conv _ x | .strid x | .s2b x | .b2s x | .faddr _ x | .field _ _ _ x | .ext x _ | .len _ x => xTmp x
  | .nil0 .. | .alloc _ => []
  | .pick c a b => xTmp c ++ xTmp a ++ xTmp b
  | .build _ ps => ps.flatMap fun p => xTmp p.2.2
  | .bslice _ _ _ _ ps | .bsm _ _ _ _ ps => ps.flatMap fun p => xTmp p.2
  | .stm _ a x | .apm _ _ _ a x | .store _ a x | .bin _ a x | .eqv _ _ _ a x | .iaddr _ a x | .idx a x | .app _ _ _ a x | .max a x | .min a x => xTmp a ++ xTmp x
  | .mkf _ cs => cs.flatMap xTmp
  | .mksl _ _ _ _ a x => xTmp a ++ xTmp x
  | .cut _ x lo hi | .scut x lo hi => xTmp x ++ oTmp lo ++ oTmp hi
  | .cut3 _ x lo hi m => xTmp x ++ oTmp lo ++ xTmp hi ++ xTmp m
  | .clr _ _ x => xTmp x
  | .cutm _ x hi m => xTmp x ++ xTmp hi ++ oTmp m
  | .call _ xs _ => xs.flatMap xTmp
  | .callv x xs _ => xTmp x ++ xs.flatMap xTmp
def IOp.reads (o : IOp) : List Nat := o.op.reads ++ (match o.g with | some (some t, _) => [t] | _ => []) ++ o.apart.flatMap xTmp
def IOp.indep (x y : IOp) : Bool :=
  (match x.dst with | some d => !(y.reads.contains d) && y.dst != some d | none => true) && (match y.dst with | some d => !(x.reads.contains d) | none => true)
def X.same : X → X → Bool
  | .t n, .t m => n == m
  | _, _ => false
/-- x reads at a place that one of these bears. -/
def underAny (x : IOp) (l : List X) : Bool := match readsAt x.op with
  | some a => l.any fun b => a.same b || x.apart.any fun r => r.same b
  | none => false
def isSA : I → Bool
  | .store .. | .app .. => true
  | _ => false
def isMk : I → Bool
  | .alloc _ | .box _ | .nil0 .. | .s2b _ | .mksl .. | .bslice .. => true
  | _ => false
def isRefCall (md : Nat → Mode) : I → Bool
  | .call f _ _ => match md f with
    | .ref => true
    | _ => false
  | _ => false
def swapOk (md : Nat → Mode) (x y : IOp) : Bool :=
  x.indep y && (((memOf md x.op).pure && x.apart.isEmpty) || ((memOf md y.op).pure && y.apart.isEmpty)
    || ((memOf md x.op).free (memOf md y.op) && (y.apart.isEmpty || (readsAt y.op).isSome || !(memOf md x.op).k || ((readsAt x.op).isNone && y.apart.all fun b => x.apart.any fun c => b.same c)))
    || (underAny x y.apart && (match y.op with | .store .. | .app .. => true | _ => false))
    || (!(memOf md x.op).w && (readsAt x.op).isNone && underAny y x.apart)
    || (isSA x.op && underAny y x.apart)
    || (isSA x.op && isMk y.op && y.apart.all fun b => x.apart.any fun c => b.same c)
    || (isRefCall md y.op && underAny x y.apart))
/-- What must be done ahead of an operation, directly or not: bit by bit. -/
def pre (acc : List Nat) (o : Oper) : Nat := o.after.toList.foldr (fun e s => if Region.binds .any e then s ||| (1 <<< e.on ||| acc.getD e.on 0) else s) 0
def preAll : List Oper → List Nat → List Nat
  | [], acc => acc
  | o :: r, acc => preAll r (acc ++ [pre acc o])
/-- Where in the region a temporary is told (behind the last such place). -/
def dnOf (l : List IOp) (m : Nat) : Nat := l.foldl (fun a o => if o.dst == some m then o.ix + 1 else a) 0
def availX (dn : Nat → Nat) (n : Nat) : X → Bool
  | .t m => decide (dn m ≤ n)
  | .k _ => true
/-- With the hints alone that are told ahead of place n. -/
def IOp.avail (dn : Nat → Nat) (n : Nat) (z : IOp) : IOp := { z with apart := z.apart.filter (availX dn n) }
/-- The order l is one of those that the text allows, and any other comes to the same. -/
def drawOk' (dn : Nat → Nat) (md : Nat → Mode) (b : List Nat) : List IOp → Bool
  | [] => true
  | y :: r => !(b.getD y.ix 0).testBit y.ix && (r.all fun z => decide (y.ix < z.ix) && !(b.getD y.ix 0).testBit z.ix && ((b.getD z.ix 0).testBit y.ix || swapOk md y (z.avail dn y.ix))) && drawOk' dn md b r
def drawOk (md : Nat → Mode) (b : List Nat) (l : List IOp) : Bool := drawOk' (dnOf l) md b l
/-- The order l holds the operations of the text, each once. -/
def coverOk (n : Nat) (b : List Nat) (l : List IOp) : Bool := l.length == n && (b.all fun x => x < 2 ^ n) && (List.range n).all fun i => l.any fun o => o.ix == i

/-- The text's own operation. -/
def I.plain : I → I
  | .stm n a x => .store n a x
  | .cutm sz x hi none => .cut sz x none (some hi)
  | .cutm sz x hi (some m) => .cut3 sz x none hi m
  | .apm fl sz bytes s x => .app fl sz bytes s x
  | .bsm fl sz z k ps => .bslice fl sz z k ps
  | op => op
/-- Without its hints. -/
def IOp.bare (o : IOp) : IOp := { o with apart := [], op := o.op.plain }

/-- Each operation is the text's at its place. -/
def cIxs (P : Program) (ops : Array Oper) (rid : Nat) (l : List IOp) : Prop := l.map (fun o => (ops[o.ix]?).bind (cOp P ops rid o.ix)) = l.map fun o => some o.bare

inductive Same (P : Program) (md : Nat → Mode) : Code → C → Prop
  | skip : Same P md .skip .skip
  | plain {id : Nat} {ops : Array Oper} {l : List IOp} (h : cOps P ops id 0 ops.toList = some (l.map IOp.bare)) : Same P md (.region id ops false) (.reg l)
  | draw {id : Nat} {ops : Array Oper} {l : List IOp} {b : List Nat} (h : cIxs P ops id l) (hb : preAll ops.toList [] = b) (hd : drawOk md b l = true) (hc : coverOk ops.size b l = true) : Same P md (.region id ops true) (.reg l)
  | seq {a b : Code} {x y : C} : Same P md a x → Same P md b y → Same P md (.seq a b) (.seq x y)
  | cond {c : Operand} {x : X} {a b : Code} {p q : C} : cX P 0 c = some x → Same P md a p → Same P md b q → Same P md (.cond c a b) (.cond x p q)
  | block {id : Nat} {a : Code} {x : C} : Same P md a x → Same P md (.block id a) (.block id x)
  | loop {kt ks : List Nat} {a : Code} {x : C} : Same P md a x → Same P md (.loop a) (.loop kt ks x)
  | exit {id : Nat} : Same P md (.exit id) (.exit id)
  | ifnil {id : Nat} {ops : Array Oper} {l : List IOp} {o : Oper} {t : Tmp} {op : BinOp} {tx ty e : TypeId} {x : Operand} {xx : X} {a b : Code} {p q : C} (hlast : ops.toList.getLast? = some o) (h : cOps P ops id 0 ops.toList.dropLast = some (l.map IOp.bare))
      (ho : o.op = .binOp op tx x (.const (.slice none 0 0)) ty) {neg : Bool} (hop : op = .eql ∧ neg = false ∨ op = .neq ∧ neg = true) (hx : cX P tx x = some xx) (hu : P.underlying tx = some (.slice e)) (hd : o.dst = some t) (hg : o.guard = none) : Same P md a p → Same P md b q →
      Same P md (.seq (.region id ops false) (.cond (.tmp t) a b)) (.seq (.reg l) (.ifnil neg t xx p q))
  | ret : Same P md .ret .ret
  | ren {a : Code} {x : C} {s t : Nat} : Same P md a x → Same P md a (.seq x (.ren s t))

def cR (P : Program) : List ResultVar → Option (List RV)
  | [] => some []
  | r :: rs => match (match r with
      | .tmp t => some (RV.t t)
      | .cell a t => match P.info? t, aggT P t with
        | some i, some ag => if 0 < i.size ∧ (ag = true ∨ i.size = 1) then some (RV.cell a i.size ag) else none
        | _, _ => none), cR P rs with
    | some x, some xs => some (x :: xs)
    | _, _ => none

/-- The evaluator's function is the program's. -/
structure FOk (P : Program) (md : Nat → Mode) (fn : Func) (F : F) : Prop where
  body : ∃ c, fn.body = some c ∧ Same P md c F.body
  res : cR P fn.results.toList = some F.res
  tmps : fn.ntmps = F.ntmps
  small : F.np ≤ F.ntmps
end Go.Ae
namespace Go.Ae
open Go.RowKit
set_option linter.unusedVariables false

/-- Ghosts: which block a place lies in; how many cells a block has. -/
structure G where
  θ : Nat → Nat → Path → Option Nat
  κ : Nat → Nat

/-- What a value that is only read says: 'cell' are the cells that stay. -/
inductive Rd (cell : Addr → Option Value) : AV → Value → Prop
  | int (k : IntKind) (n : Int) : Rd cell (.int k n) (.int k n)
  | bool (b : Bool) : Rd cell (.bool b) (.bool b)
  | str (s : ByteArray) : Rd cell (.str s) (.string s)
  | undef (v : Value) : Rd cell .undef v
  | rd (fl : Bool) (xs : List (List AV)) (A : Option Addr) (cap sz : Nat) (cv : Nat → Nat → Value) (h2 : xs.length ≤ cap) (hsz : ∀ r ∈ xs, r.length = sz)
      (hfl : fl = true → ∀ r ∈ xs, ∀ v ∈ r, v.scal = true)
      (hc : ∀ i c v, cellAt xs i c = some v → ∃ a, A = some a ∧ cell (a.add (i * sz + c)) = some (cv i c))
      (hr : ∀ i c v, cellAt xs i c = some v → Rd cell v (cv i c)) : Rd cell (.rd fl xs) (.slice A xs.length cap)
  | rptr (a : Addr) (cs : List AV) (cv : Nat → Value) (hc : ∀ c v, cs[c]? = some v → cell (a.add c) = some (cv c))
      (hr : ∀ c v, cs[c]? = some v → Rd cell v (cv c)) : Rd cell (.rptr cs) (.pointer (some a))
  | fn (f : Nat) (cs : List AV) (arr : Array Value) (hl : cs.length = arr.size) (hr : ∀ i v, cs[i]? = some v → Rd cell v (arr.getD i undef)) : Rd cell (.fn f cs) (.func (.func f) #[] arr)
  | agg (cs : List AV) (arr : Array Value) (hl : cs.length = arr.size) (hr : ∀ i v, cs[i]? = some v → Rd cell v (arr.getD i undef)) : Rd cell (.agg cs) (.agg arr)

def rowSz : List (List AV) → Nat
  | [] => 0
  | r :: _ => r.length
def csz (sz : Nat) : Path → List (List AV) → Nat
  | [], _ => sz
  | _ :: _, ys => rowSz ys

/-- The site is there, and the reference isn't younger than its block. -/
def KeyOk (S : St) (lv s ver : Nat) : Prop := ∃ ob, (S.heap lv).get s = some ob ∧ ∀ b, ob = some b → ver ≤ b.ver

def SlRel (g : G) (lv s : Nat) (p : Path) (b : Blk) (ys : List (List AV)) (off len : Nat) (v : Value) : Prop :=
  ∃ A cap, v = .slice A len cap ∧ len ≤ cap ∧ off + len ≤ ys.length ∧ (p = [] ∨ len ≠ 0 → match g.θ lv s p with
    | some B => (cap = 0 ∨ A = some ⟨B, off * csz b.sz p ys, none⟩) ∧ (p = [] → (off + cap) * b.sz ≤ g.κ B)
    | none => A = none ∧ cap = 0)
def PtrRel (g : G) (lv s : Nat) (p : Path) (b : Blk) (ys : List (List AV)) (i c : Nat) (v : Value) : Prop :=
  (p ≠ [] → i < ys.length) ∧ ∃ B, g.θ lv s p = some B ∧ v = .pointer (some ⟨B, i * csz b.sz p ys + c, none⟩)

inductive VRel (S : St) (g : G) (cell : Addr → Option Value) : AV → Value → Prop
  | int (k : IntKind) (n : Int) : VRel S g cell (.int k n) (.int k n)
  | bool (b : Bool) : VRel S g cell (.bool b) (.bool b)
  | str (s : ByteArray) : VRel S g cell (.str s) (.string s)
  | nil (fl : Bool) (sz : Nat) : VRel S g cell (.nil fl sz) (.slice none 0 0)
  | skp : VRel S g cell .skp undef
  | undef (v : Value) : VRel S g cell .undef v
  | rd (fl : Bool) (xs : List (List AV)) (v : Value) (h : Rd cell (.rd fl xs) v) : VRel S g cell (.rd fl xs) v
  | rptr (cs : List AV) (v : Value) (h : Rd cell (.rptr cs) v) : VRel S g cell (.rptr cs) v
  | sl (lv s ver : Nat) (p : Path) (off len : Nat) (v : Value) (hk : KeyOk S lv s ver) (hv : ∃ A l c, v = .slice A l c) (h : ∀ b ys, S.at lv s ver p = some (b, ys) → SlRel g lv s p b ys off len v) : VRel S g cell (.sl lv s ver p off len) v
  | ptr (lv s ver : Nat) (p : Path) (i c : Nat) (v : Value) (hk : KeyOk S lv s ver) (hv : ∃ x, v = .pointer x) (h : ∀ b ys, S.at lv s ver p = some (b, ys) → PtrRel g lv s p b ys i c v) : VRel S g cell (.ptr lv s ver p i c) v
  | agg (cs : List AV) (arr : Array Value) (hl : cs.length = arr.size) (hr : ∀ i v, cs[i]? = some v → VRel S g cell v (arr.getD i Go.undef)) : VRel S g cell (.agg cs) (.agg arr)
  | fn (f : Nat) (cs : List AV) (arr : Array Value) (hl : cs.length = arr.size) (hr : ∀ i v, cs[i]? = some v → VRel S g cell v (arr.getD i Go.undef)) : VRel S g cell (.fn f cs) (.func (.func f) #[] arr)
  | tup (cs : List AV) (arr : Array Value) (hl : cs.length = arr.size) (hr : ∀ i v, cs[i]? = some v → VRel S g cell v (arr.getD i Go.undef)) : VRel S g cell (.tup cs) (.tuple arr)

/-- A row of values. -/
def VRels (S : St) (g : G) (cell : Addr → Option Value) (cs : List AV) (arr : Array Value) : Prop := cs.length = arr.size ∧ ∀ i v, cs[i]? = some v → VRel S g cell v (arr.getD i Go.undef)

/-- What an element's cell says. -/
def KRel (cell : Addr → Option Value) (S : St) (g : G) (lv s : Nat) (b : Blk) (p : Path) (i c : Nat) (v : AV) (cv : Value) : Prop := match v with
  | .own fl zs => b.box = false ∧ b.fl = false ∧ (fl = true → ∀ r ∈ zs, ∀ v ∈ r, v.scal = true) ∧ ∃ A cap, cv = .slice A zs.length cap ∧ zs.length ≤ cap ∧ match g.θ lv s (p ++ [(i, c)]) with
    | some B => cap = 0 ∨ A = some ⟨B, 0, none⟩
    | none => A = none ∧ cap = 0
  | v => VRel S g cell (v.mapR (upR lv)) cv ∧ (b.box = false → v.scal = true)

def Free (fz : Nat × Nat) (n : Nat) : Prop := ∀ o, o < n → (decide (fz.1 ≤ o) && decide (o < fz.2)) = false
/-- A row of elements of k cells: none is frozen; of elements of more than one cell there is no mark at all. -/
def FreeS (k : Nat) (fz : Nat × Nat) (n : Nat) : Prop := Free fz n ∧ (fz = (0, 0) ∨ k ≤ 1)

/-- What the machine holds of one place's content. -/
def Cont (cell : Addr → Option Value) (S : St) (g : G) (w : World) (lv s : Nat) (b : Blk) (p : Path) (ys : List (List AV)) : Prop :=
  (∀ r ∈ ys, r.length = csz b.sz p ys) ∧ (ys ≠ [] → 0 < csz b.sz p ys) ∧ match g.θ lv s p with
    | none => ys = []
    | some B => ∃ arr ty fz, w.heap[B]? = some (.cells arr ty fz) ∧ FreeS (csz b.sz p ys) fz arr.size ∧ arr.size = g.κ B ∧ ys.length * csz b.sz p ys ≤ arr.size ∧
      ∀ i c v, cellAt ys i c = some v → ∃ cv, arr[i * csz b.sz p ys + c]? = some cv ∧ KRel cell S g lv s b p i c v cv

open Classical in
/-- The cells of w0 that are read only. -/
noncomputable def stab (w0 : World) (R : Nat → Prop) (a : Addr) : Option Value := if R a.block then w0.cell? a else none

structure WRel (w0 : World) (M : Nat → Nat → Path → Option Nat) (R : Nat → Prop) (S : St) (g : G) (w : World) : Prop where
  os : w.os = w0.os
  tape : w.tape = w0.tape
  output : w.output = w0.output
  size : w0.heap.size ≤ w.heap.size
  keep : ∀ B, B < w0.heap.size → (∀ lv s p, M lv s p ≠ some B) → w.heap[B]? = w0.heap[B]?
  rng : ∀ lv s p B, g.θ lv s p = some B → B < w.heap.size
  fresh : ∀ s p B, g.θ 0 s p = some B → w0.heap.size ≤ B
  ext : ∀ lv s p B, g.θ (lv + 1) s p = some B → M (lv + 1) s p = some B ∨ w0.heap.size ≤ B
  inj : ∀ lv s p lv' s' p' B, g.θ lv s p = some B → g.θ lv' s' p' = some B → lv = lv' ∧ s = s' ∧ p = p'
  cont : ∀ lv s b p ys, S.blk lv s = some b → navE b.elems p = some ys → Cont (stab w0 R) S g w lv s b p ys

/-- What may change of the memory without a reference noticing: what is empty inside may come to hold something. -/
def Ext (S : St) (g : G) (S' : St) (g' : G) : Prop := ∀ lv s ob, (S.heap lv).get s = some ob → ∃ ob', (S'.heap lv).get s = some ob' ∧ ∀ b', ob' = some b' →
  ∃ b, ob = some b ∧ b.ver ≤ b'.ver ∧ (b.ver = b'.ver → b'.sz = b.sz ∧ ∀ p ys', navE b'.elems p = some ys' → ∃ ys, navE b.elems p = some ys ∧ ys.length ≤ ys'.length ∧ (csz b'.sz p ys' = csz b.sz p ys ∧ g'.θ lv s p = g.θ lv s p ∧ (∀ B, g.θ lv s p = some B → g'.κ B = g.κ B) ∨ p ≠ [] ∧ ys = []))
/-- The same, with nothing inside coming to hold more. -/
def ExtS (S : St) (g : G) (S' : St) (g' : G) : Prop := ∀ lv s ob, (S.heap lv).get s = some ob → ∃ ob', (S'.heap lv).get s = some ob' ∧ ∀ b', ob' = some b' →
  ∃ b, ob = some b ∧ b.ver ≤ b'.ver ∧ (b.ver = b'.ver → b'.sz = b.sz ∧ ∀ p ys', navE b'.elems p = some ys' → ∃ ys, navE b.elems p = some ys ∧ ys.length ≤ ys'.length ∧ csz b'.sz p ys' = csz b.sz p ys ∧ g'.θ lv s p = g.θ lv s p ∧ ∀ B, g.θ lv s p = some B → g'.κ B = g.κ B)

theorem at_blk {S : St} {lv s ver : Nat} {p : Path} {b : Blk} {ys : List (List AV)} (h : S.at lv s ver p = some (b, ys)) : S.blk lv s = some b ∧ ver = b.ver ∧ navE b.elems p = some ys := by
  unfold St.at at h
  cases hb : S.blk lv s with
  | none => simp [hb] at h
  | some b0 =>
    simp only [hb] at h
    by_cases hv : ver = b0.ver
    · rw [if_pos hv] at h
      cases hn : navE b0.elems p with
      | none => simp [hn] at h
      | some ys0 => simp [hn] at h; obtain ⟨rfl, rfl⟩ := h; exact ⟨rfl, hv, hn⟩
    · rw [if_neg hv] at h; cases h
theorem at_mk {S : St} {lv s ver : Nat} {p : Path} {b : Blk} {ys : List (List AV)} (h : S.blk lv s = some b) (hv : ver = b.ver) (hn : navE b.elems p = some ys) : S.at lv s ver p = some (b, ys) := by
  unfold St.at; simp [h, hv, hn]
theorem blk_get {S : St} {lv s : Nat} {b : Blk} (h : S.blk lv s = some b) : (S.heap lv).get s = some (some b) := by
  unfold St.blk at h
  split at h
  · rename_i b0 hg; cases h; exact hg
  · cases h
theorem get_blk {S : St} {lv s : Nat} {b : Blk} (h : (S.heap lv).get s = some (some b)) : S.blk lv s = some b := by unfold St.blk; rw [h]

theorem ExtS.ext {S S' : St} {g g' : G} (h : ExtS S g S' g') : Ext S g S' g' := fun lv s ob hob => by
  obtain ⟨ob', h1, h2⟩ := h lv s ob hob
  refine ⟨ob', h1, fun b' hb' => ?_⟩
  obtain ⟨b, hb, hle, hs⟩ := h2 b' hb'
  refine ⟨b, hb, hle, fun hv => ?_⟩
  obtain ⟨e, f⟩ := hs hv
  refine ⟨e, fun p ys' hn => ?_⟩
  obtain ⟨ys, c1, c2, c3⟩ := f p ys' hn
  exact ⟨ys, c1, c2, .inl c3⟩
theorem Ext.refl (S : St) (g : G) : Ext S g S g := ExtS.ext fun lv s ob h => ⟨ob, h, fun b' hb => ⟨b', hb, Nat.le_refl _, fun _ => ⟨rfl, fun p ys h => ⟨ys, h, Nat.le_refl _, rfl, rfl, fun _ _ => rfl⟩⟩⟩⟩
theorem Ext.trans {S S' S'' : St} {g g' g'' : G} (h : Ext S g S' g') (k : Ext S' g' S'' g'') : Ext S g S'' g'' := by
  intro lv s ob hob
  obtain ⟨ob', h1, h2⟩ := h lv s ob hob
  obtain ⟨ob'', k1, k2⟩ := k lv s ob' h1
  refine ⟨ob'', k1, fun b'' hb'' => ?_⟩
  obtain ⟨b', hb', hle, hsame⟩ := k2 b'' hb''
  obtain ⟨b, hb, hle0, hsame0⟩ := h2 b' hb'
  refine ⟨b, hb, Nat.le_trans hle0 hle, fun hv => ?_⟩
  have hv1 : b.ver = b'.ver := by omega
  have hv2 : b'.ver = b''.ver := by omega
  obtain ⟨e1, f1⟩ := hsame hv2
  obtain ⟨e0, f0⟩ := hsame0 hv1
  refine ⟨e1.trans e0, fun p ys'' hn => ?_⟩
  obtain ⟨ys', a1, a2, a3⟩ := f1 p ys'' hn
  obtain ⟨ys, c1, c2, c3⟩ := f0 p ys' a1
  refine ⟨ys, c1, Nat.le_trans c2 a2, ?_⟩
  rcases c3 with ⟨c3, c4, c5⟩ | c3
  · rcases a3 with ⟨a3, a4, a5⟩ | ⟨a3, a4⟩
    · exact .inl ⟨a3.trans c3, a4.trans c4, fun B hB => (a5 B (c4 ▸ hB)).trans (c5 B hB)⟩
    · subst a4
      exact .inr ⟨a3, List.eq_nil_of_length_eq_zero (by simpa using c2)⟩
  · exact .inr c3

theorem KeyOk.mono {S S' : St} {g g' : G} (h : Ext S g S' g') {lv s ver : Nat} (k : KeyOk S lv s ver) : KeyOk S' lv s ver := by
  obtain ⟨ob, h1, h2⟩ := k
  obtain ⟨ob', k1, k2⟩ := h lv s ob h1
  refine ⟨ob', k1, fun b' hb' => ?_⟩
  obtain ⟨b, hb, hle, _⟩ := k2 b' hb'
  exact Nat.le_trans (h2 b hb) hle

theorem SlRel.move {g g' : G} {lv s : Nat} {p : Path} {b b' : Blk} {ys ys' : List (List AV)} {off len : Nat} {v : Value} (h : SlRel g lv s p b ys off len v)
    (hsz : b'.sz = b.sz) (hl : ys.length ≤ ys'.length) (hc : csz b'.sz p ys' = csz b.sz p ys) (hθ : g'.θ lv s p = g.θ lv s p) (hκ : ∀ B, g.θ lv s p = some B → g'.κ B = g.κ B) : SlRel g' lv s p b' ys' off len v := by
  obtain ⟨A, cap, rfl, h1, h2, h3⟩ := h
  refine ⟨A, cap, rfl, h1, Nat.le_trans h2 hl, fun hx => ?_⟩
  replace h3 := h3 hx
  rw [hθ, hc]
  cases hB : g.θ lv s p with
  | none => rw [hB] at h3; exact h3
  | some B => rw [hB] at h3; simp only at h3 ⊢; rw [hsz, hκ B hB]; exact h3
theorem SlRel.move' {g g' : G} {lv s lv' s' : Nat} {p : Path} {b b' : Blk} {ys ys' : List (List AV)} {off len : Nat} {v : Value} (h : SlRel g lv s p b ys off len v)
    (hsz : b'.sz = b.sz) (hl : ys.length ≤ ys'.length) (hc : csz b'.sz p ys' = csz b.sz p ys) (hθ : g'.θ lv' s' p = g.θ lv s p) (hκ : ∀ B, g.θ lv s p = some B → g'.κ B = g.κ B) : SlRel g' lv' s' p b' ys' off len v := by
  obtain ⟨A, cap, rfl, h1, h2, h3⟩ := h
  refine ⟨A, cap, rfl, h1, Nat.le_trans h2 hl, fun hx => ?_⟩
  replace h3 := h3 hx
  rw [hθ, hc]
  cases hB : g.θ lv s p with
  | none => rw [hB] at h3; exact h3
  | some B => rw [hB] at h3; simp only at h3 ⊢; rw [hsz, hκ B hB]; exact h3
theorem SlRel.fill {g g' : G} {lv s : Nat} {p : Path} {b b' : Blk} {ys ys' : List (List AV)} {off len : Nat} {v : Value} (h : SlRel g lv s p b ys off len v)
    (hp : p ≠ []) (hy : ys = []) : SlRel g' lv s p b' ys' off len v := by
  obtain ⟨A, cap, rfl, h1, h2, h3⟩ := h
  subst hy
  have h2' : off + len ≤ 0 := h2
  exact ⟨A, cap, rfl, h1, by omega, fun hx => by rcases hx with hx | hx; exact absurd hx hp; omega⟩
theorem PtrRel.move {g g' : G} {lv s : Nat} {p : Path} {b b' : Blk} {ys ys' : List (List AV)} {i c : Nat} {v : Value} (h : PtrRel g lv s p b ys i c v) (hl : ys.length ≤ ys'.length)
    (hc : csz b'.sz p ys' = csz b.sz p ys) (hθ : g'.θ lv s p = g.θ lv s p) : PtrRel g' lv s p b' ys' i c v := by
  obtain ⟨h0, B, h1, h2⟩ := h
  exact ⟨fun hp => Nat.lt_of_lt_of_le (h0 hp) hl, B, hθ.trans h1, by rw [hc]; exact h2⟩

theorem VRel.mono {S S' : St} {g g' : G} {cell : Addr → Option Value} (h : Ext S g S' g') {v : AV} {cv : Value} (k : VRel S g cell v cv) : VRel S' g' cell v cv := by
  induction k with
  | int k n => exact .int k n
  | bool b => exact .bool b
  | str s => exact .str s
  | nil fl sz => exact .nil fl sz
  | skp => exact .skp
  | undef v => exact .undef v
  | rd fl xs v h => exact .rd fl xs v h
  | rptr cs v h => exact .rptr cs v h
  | sl lv s ver p off len v hk hv hs =>
    refine .sl lv s ver p off len v (hk.mono h) hv fun b' ys' hat => ?_
    obtain ⟨hb', hv, hn⟩ := at_blk hat
    obtain ⟨ob, h1, h2⟩ := hk
    obtain ⟨ob', k1, k2⟩ := h lv s ob h1
    rw [blk_get hb'] at k1; cases k1
    obtain ⟨b, hb, hle, hsame⟩ := k2 b' rfl
    have hvv : b.ver = b'.ver := by have := h2 b hb; omega
    obtain ⟨e, f⟩ := hsame hvv
    obtain ⟨ys, c1, c2, c3⟩ := f p ys' hn
    subst hb
    rcases c3 with ⟨c3, c4, c5⟩ | ⟨c3, c4⟩
    · exact (hs b ys (at_mk (get_blk h1) (by omega) c1)).move e c2 c3 c4 c5
    · exact (hs b ys (at_mk (get_blk h1) (by omega) c1)).fill c3 c4
  | ptr lv s ver p i c v hk hv hs =>
    refine .ptr lv s ver p i c v (hk.mono h) hv fun b' ys' hat => ?_
    obtain ⟨hb', hv, hn⟩ := at_blk hat
    obtain ⟨ob, h1, h2⟩ := hk
    obtain ⟨ob', k1, k2⟩ := h lv s ob h1
    rw [blk_get hb'] at k1; cases k1
    obtain ⟨b, hb, hle, hsame⟩ := k2 b' rfl
    have hvv : b.ver = b'.ver := by have := h2 b hb; omega
    obtain ⟨e, f⟩ := hsame hvv
    obtain ⟨ys, c1, c2, c3⟩ := f p ys' hn
    subst hb
    have hr := hs b ys (at_mk (get_blk h1) (by omega) c1)
    rcases c3 with ⟨c3, c4, c5⟩ | ⟨c3, c4⟩
    · exact hr.move c2 c3 c4
    · subst c4; exact absurd (hr.1 c3) (Nat.not_lt_zero _)
  | agg cs arr hl _ ih => exact .agg cs arr hl ih
  | fn f cs arr hl _ ih => exact .fn f cs arr hl ih
  | tup cs arr hl _ ih => exact .tup cs arr hl ih

theorem KRel.mono {S S' : St} {g g' : G} {cell : Addr → Option Value} (h : Ext S g S' g') {lv s : Nat} {b : Blk} {p : Path} {i c : Nat} {v : AV} {cv : Value} (k : KRel cell S g lv s b p i c v cv)
    (hθ : g'.θ lv s (p ++ [(i, c)]) = g.θ lv s (p ++ [(i, c)])) : KRel cell S' g' lv s b p i c v cv := by
  cases v <;> unfold KRel at k ⊢ <;> first | exact ⟨k.1.mono h, k.2⟩ | (simp only at k ⊢; rw [hθ]; exact k)
end Go.Ae
namespace Go.Ae
open Go.RowKit
set_option linter.unusedVariables false

mutual
theorem mapR_id {f : Nat → Nat → Nat → Path → Option (Nat × Nat × Nat)} (h : ∀ lv s v p, f lv s v p = some (lv, s, v)) : ∀ v : AV, v.mapR f = v
  | .int .. => rfl
  | .bool _ => rfl
  | .str _ => rfl
  | .nil .. => rfl
  | .rd .. => rfl
  | .own .. => rfl
  | .sl lv s v p off len => by simp [AV.mapR, h]
  | .ptr lv s v p i c => by simp [AV.mapR, h]
  | .rptr _ => rfl
  | .agg cs => by simp [AV.mapR, mapRs_id h cs]
  | .fn f cs => by simp [AV.mapR, mapRs_id h cs]
  | .tup cs => by simp [AV.mapR, mapRs_id h cs]
  | .skp => rfl
  | .undef => rfl
theorem mapRs_id {f : Nat → Nat → Nat → Path → Option (Nat × Nat × Nat)} (h : ∀ lv s v p, f lv s v p = some (lv, s, v)) : ∀ vs : List AV, AV.mapRs f vs = vs
  | [] => rfl
  | v :: r => by simp [AV.mapRs, mapR_id h v, mapRs_id h r]
end
theorem mapR_up0 (v : AV) : v.mapR (upR 0) = v := mapR_id (fun _ _ _ _ => rfl) v
theorem scal_mapR {f : Nat → Nat → Nat → Path → Option (Nat × Nat × Nat)} {v : AV} (h : v.scal = true) : v.mapR f = v := by cases v <;> first | rfl | simp [AV.scal] at h
theorem mapRs_map {f : Nat → Nat → Nat → Path → Option (Nat × Nat × Nat)} : ∀ vs : List AV, AV.mapRs f vs = vs.map (AV.mapR f)
  | [] => rfl
  | v :: r => by simp [AV.mapRs, mapRs_map r]

theorem get_set (h : Heap) (s t : Nat) (b : Option Blk) : (h.set s b).get t = if t = s then some b else h.get t := by
  induction h with
  | nil => simp only [Heap.set, Heap.get]
  | cons x r ih =>
    obtain ⟨u, c⟩ := x
    simp only [Heap.set]
    by_cases h1 : s = u
    · subst h1
      rw [if_pos rfl]
      simp only [Heap.get]
      by_cases h2 : t = s <;> simp [h2]
    · rw [if_neg h1]
      by_cases h2 : s < u
      · rw [if_pos h2]
        simp only [Heap.get]
      · rw [if_neg h2]
        simp only [Heap.get, ih]
        by_cases h3 : t = u
        · subst h3; rw [if_pos rfl, if_neg (fun e => h1 e.symm), if_pos rfl]
        · rw [if_neg h3, if_neg h3]

theorem heap_put_same (S : St) (lv s : Nat) (b : Option Blk) (hl : lv = 0 ∨ lv - 1 < S.ext.length) : (S.put lv s b).heap lv = (S.heap lv).set s b := by
  cases lv with
  | zero => rfl
  | succ n =>
    have hn : n < S.ext.length := by simpa using hl
    simp [St.put, St.heap, List.getElem?_eq_getElem hn]
theorem heap_put_other (S : St) (lv lv' s : Nat) (b : Option Blk) (h : lv' ≠ lv) : (S.put lv s b).heap lv' = S.heap lv' := by
  cases lv with
  | zero => cases lv' with
    | zero => exact absurd rfl h
    | succ n => rfl
  | succ n => cases lv' with
    | zero => rfl
    | succ m =>
      have hm : ¬ n = m := fun e => h (by rw [e])
      simp [St.put, St.heap, hm]
theorem ext_lt {S : St} {n s : Nat} {ob : Option Blk} (h : (S.heap (n + 1)).get s = some ob) : n < S.ext.length := by
  by_cases hn : n < S.ext.length
  · exact hn
  · simp [St.heap, List.getElem?_eq_none (Nat.le_of_not_lt hn), Heap.get] at h
theorem lv_ok {S : St} {lv s : Nat} {ob : Option Blk} (h : (S.heap lv).get s = some ob) : lv = 0 ∨ lv - 1 < S.ext.length := by
  cases lv with
  | zero => exact .inl rfl
  | succ n => exact .inr (by simpa using ext_lt h)
theorem get_put {S : St} {lv s : Nat} {ob : Option Blk} (h : (S.heap lv).get s = some ob) (b : Option Blk) (lv' s' : Nat) :
    ((S.put lv s b).heap lv').get s' = if lv' = lv ∧ s' = s then some b else (S.heap lv').get s' := by
  by_cases hl : lv' = lv
  · subst hl
    rw [heap_put_same _ _ _ _ (lv_ok h), get_set]
    by_cases hs : s' = s <;> simp [hs]
  · rw [heap_put_other _ _ _ _ _ hl]
    simp [hl]
theorem put_tmps (S : St) (lv s : Nat) (b : Option Blk) : (S.put lv s b).tmps = S.tmps := by cases lv <;> rfl
theorem put_extlen (S : St) (lv s : Nat) (b : Option Blk) : (S.put lv s b).ext.length = S.ext.length := by cases lv <;> simp [St.put]
theorem blk_put {S : St} {lv s : Nat} {ob : Option Blk} (h : (S.heap lv).get s = some ob) (b : Option Blk) (lv' s' : Nat) :
    (S.put lv s b).blk lv' s' = if lv' = lv ∧ s' = s then b else S.blk lv' s' := by
  unfold St.blk
  rw [get_put h]
  by_cases hl : lv' = lv ∧ s' = s
  · rw [if_pos hl, if_pos hl]; cases b <;> rfl
  · rw [if_neg hl, if_neg hl]

theorem new_get {S S' : St} {s : Nat} {b : Blk} (h : S.new s b = some S') : S.loc.get s = none ∧ S' = { S with loc := S.loc.set s (some b) } := by
  unfold St.new at h
  split at h
  · rename_i hg; cases h; exact ⟨hg, rfl⟩
  · cases h
theorem new_heap {S S' : St} {s : Nat} {b : Blk} (h : S.new s b = some S') (lv t : Nat) : (S'.heap lv).get t = if lv = 0 ∧ t = s then some (some b) else (S.heap lv).get t := by
  obtain ⟨hg, rfl⟩ := new_get h
  cases lv with
  | zero => simp only [St.heap]; rw [get_set]; simp
  | succ n => simp [St.heap]
theorem new_blk {S S' : St} {s : Nat} {b : Blk} (h : S.new s b = some S') (lv t : Nat) : S'.blk lv t = if lv = 0 ∧ t = s then some b else S.blk lv t := by
  unfold St.blk
  rw [new_heap h]
  by_cases hl : lv = 0 ∧ t = s
  · rw [if_pos hl, if_pos hl]
  · rw [if_neg hl, if_neg hl]
theorem new_tmps {S S' : St} {s : Nat} {b : Blk} (h : S.new s b = some S') : S'.tmps = S.tmps := by obtain ⟨_, rfl⟩ := new_get h; rfl
theorem new_ext {S S' : St} {s : Nat} {b : Blk} (h : S.new s b = some S') : S'.ext = S.ext := by obtain ⟨_, rfl⟩ := new_get h; rfl

theorem Cont.mono {cell : Addr → Option Value} {S S' : St} {g g' : G} {w w' : World} {lv s : Nat} {b : Blk} {p : Path} {ys : List (List AV)} (h : Cont cell S g w lv s b p ys)
    (he : Ext S g S' g') (hθ : ∀ q, g'.θ lv s q = g.θ lv s q) (hB : ∀ B, g.θ lv s p = some B → w'.heap[B]? = w.heap[B]? ∧ g'.κ B = g.κ B) : Cont cell S' g' w' lv s b p ys := by
  obtain ⟨h1, h2, h3⟩ := h
  refine ⟨h1, h2, ?_⟩
  rw [hθ p]
  cases hb : g.θ lv s p with
  | none => rw [hb] at h3; exact h3
  | some B =>
    rw [hb] at h3
    obtain ⟨arr, ty, fz, a1, a2, a3, a4, a5⟩ := h3
    obtain ⟨e1, e2⟩ := hB B hb
    refine ⟨arr, ty, fz, e1.trans a1, a2, a3.trans e2.symm, a4, fun i c v hv => ?_⟩
    obtain ⟨cv, c1, c2⟩ := a5 i c v hv
    exact ⟨cv, c1, c2.mono he (hθ _)⟩

/-- The world has new blocks, no more. -/
theorem WRel.world {w0 : World} {M : Nat → Nat → Path → Option Nat} {R : Nat → Prop} {S : St} {g : G} {w w' : World} (h : WRel w0 M R S g w) (hos : w'.os = w.os) (htape : w'.tape = w.tape) (hout : w'.output = w.output)
    (hsz : w.heap.size ≤ w'.heap.size) (hk : ∀ B, B < w.heap.size → w'.heap[B]? = w.heap[B]?) : WRel w0 M R S g w' where
  os := hos.trans h.os
  tape := htape.trans h.tape
  output := hout.trans h.output
  size := Nat.le_trans h.size hsz
  keep := fun B hB hM => (hk B (Nat.lt_of_lt_of_le hB h.size)).trans (h.keep B hB hM)
  rng := fun lv s p B hB => Nat.lt_of_lt_of_le (h.rng lv s p B hB) hsz
  fresh := h.fresh
  ext := h.ext
  inj := h.inj
  cont := fun lv s b p ys hb hn => (h.cont lv s b p ys hb hn).mono (Ext.refl _ _) (fun _ => rfl) (fun B hB => ⟨hk B (h.rng lv s p B hB), rfl⟩)

def G.add (g : G) (s : Nat) (t : Path → Option Nat) (κ : Nat → Nat) : G := { θ := fun lv s' p => if lv = 0 ∧ s' = s then t p else g.θ lv s' p, κ }

theorem Ext.new {S S' : St} {g : G} {s : Nat} {b : Blk} (hn : S.new s b = some S') (t : Path → Option Nat) {κ : Nat → Nat} (hκ : ∀ lv s p B, g.θ lv s p = some B → κ B = g.κ B) : Ext S g S' (g.add s t κ) := by
  refine ExtS.ext ?_
  intro lv s' ob hob
  have hne : ¬ (lv = 0 ∧ s' = s) := by
    rintro ⟨rfl, rfl⟩
    rw [show S.heap 0 = S.loc from rfl, (new_get hn).1] at hob
    cases hob
  refine ⟨ob, ?_, fun b' hb' => ⟨b', hb', Nat.le_refl _, fun _ => ⟨rfl, fun p ys hp => ⟨ys, hp, Nat.le_refl _, rfl, ?_, fun B hB => hκ _ _ _ B hB⟩⟩⟩⟩
  · rw [new_heap hn, if_neg hne]; exact hob
  · simp [G.add, hne]

theorem add_θ (g : G) (s : Nat) (t : Path → Option Nat) (κ : Nat → Nat) (lv s' : Nat) (p : Path) : (g.add s t κ).θ lv s' p = if lv = 0 ∧ s' = s then t p else g.θ lv s' p := rfl
/-- A new place, its blocks none of the others'. -/
theorem WRel.extend {w0 : World} {M : Nat → Nat → Path → Option Nat} {R : Nat → Prop} {S S' : St} {g : G} {w : World} (h : WRel w0 M R S g w) {s : Nat} {b : Blk} (hn : S.new s b = some S') (t : Path → Option Nat) (κ : Nat → Nat)
    (hκ : ∀ lv s p B, g.θ lv s p = some B → κ B = g.κ B) (ht : ∀ p B, t p = some B → w0.heap.size ≤ B ∧ B < w.heap.size ∧ ∀ lv s p, g.θ lv s p ≠ some B) (htinj : ∀ p q B, t p = some B → t q = some B → p = q)
    (hcont : ∀ p ys, navE b.elems p = some ys → Cont (stab w0 R) S' (g.add s t κ) w 0 s b p ys) : WRel w0 M R S' (g.add s t κ) w where
  os := h.os
  tape := h.tape
  output := h.output
  size := h.size
  keep := h.keep
  rng := fun lv s' p B hB => by
    rw [add_θ] at hB
    by_cases hc : lv = 0 ∧ s' = s
    · rw [if_pos hc] at hB; exact (ht p B hB).2.1
    · rw [if_neg hc] at hB; exact h.rng _ _ _ _ hB
  fresh := fun s' p B hB => by
    rw [add_θ] at hB
    by_cases hc : (0 : Nat) = 0 ∧ s' = s
    · rw [if_pos hc] at hB; exact (ht p B hB).1
    · rw [if_neg hc] at hB; exact h.fresh _ _ _ hB
  ext := fun lv s' p B hB => by
    rw [add_θ] at hB
    rw [if_neg (by omega)] at hB
    exact h.ext _ _ _ _ hB
  inj := fun lv s1 p lv' s2 q B h1 h2 => by
    rw [add_θ] at h1 h2
    by_cases hc : lv = 0 ∧ s1 = s <;> by_cases hd : lv' = 0 ∧ s2 = s
    · rw [if_pos hc] at h1; rw [if_pos hd] at h2
      obtain ⟨rfl, rfl⟩ := hc; obtain ⟨rfl, rfl⟩ := hd
      exact ⟨rfl, rfl, htinj p q B h1 h2⟩
    · rw [if_pos hc] at h1; rw [if_neg hd] at h2
      exact absurd h2 ((ht p B h1).2.2 _ _ _)
    · rw [if_neg hc] at h1; rw [if_pos hd] at h2
      exact absurd h1 ((ht q B h2).2.2 _ _ _)
    · rw [if_neg hc] at h1; rw [if_neg hd] at h2
      exact h.inj _ _ _ _ _ _ B h1 h2
  cont := fun lv s' b' p ys hb hp => by
    rw [new_blk hn] at hb
    by_cases hc : lv = 0 ∧ s' = s
    · rw [if_pos hc] at hb; cases hb
      obtain ⟨rfl, rfl⟩ := hc
      exact hcont p ys hp
    · rw [if_neg hc] at hb
      refine (h.cont lv s' b' p ys hb hp).mono (Ext.new hn t hκ) (fun q => by simp [G.add, hc]) (fun B hB => ⟨rfl, hκ _ _ _ B hB⟩)
end Go.Ae
namespace Go.Ae
open Go.RowKit
set_option linter.unusedVariables false
set_option linter.unusedSimpArgs false

structure TRel (S : St) (g : G) (cell : Addr → Option Value) (a : Act) : Prop where
  size : a.tmps.size = S.tmps.length
  val : ∀ i v, S.tmps[i]? = some v → VRel S g cell v (a.tmps.getD i undef)
  defers : a.defers = []
theorem TRel.mono {S S' : St} {g g' : G} {cell : Addr → Option Value} {a : Act} (h : TRel S g cell a) (he : Ext S g S' g') (ht : S'.tmps = S.tmps) : TRel S' g' cell a :=
  ⟨by rw [ht]; exact h.size, fun i v hv => (h.val i v (by rwa [ht] at hv)).mono he, h.defers⟩

theorem zeroCell_rel {S : St} {g : G} {cell : Addr → Option Value} : ∀ {v : AV} {cv : Value}, zeroCellOk v cv = true → VRel S g cell v cv := by
  intro v cv h
  unfold zeroCellOk at h
  split at h
  · simp at h; obtain ⟨rfl, rfl⟩ := h; exact .int _ _
  · simp at h; subst h; exact .bool _
  · rename_i s s'
    simp at h
    obtain ⟨⟨_, rfl⟩, rfl⟩ := h
    exact .str _
  · exact .nil _ _
  · exact .undef _
  · cases h
theorem zeros_rel {S : St} {g : G} {cell : Addr → Option Value} : ∀ {vs : List AV} {cs : List Value}, zerosOk vs cs = true → vs.length = cs.length ∧ ∀ (i : Nat) (v : AV), vs[i]? = some v → ∃ cv, cs[i]? = some cv ∧ VRel S g cell v cv
  | [], [], _ => ⟨rfl, fun i v h => by simp at h⟩
  | a :: r, b :: s, h => by
    simp only [zerosOk, Bool.and_eq_true] at h
    obtain ⟨h1, h2⟩ := zeros_rel (vs := r) (cs := s) h.2
    refine ⟨by simp [h1], fun i v hv => ?_⟩
    cases i with
    | zero => simp at hv; subst hv; exact ⟨b, by simp, zeroCell_rel h.1⟩
    | succ i => simpa using h2 i v (by simpa using hv)
  | [], _ :: _, h => by simp [zerosOk] at h
  | _ :: _, [], h => by simp [zerosOk] at h

theorem cV_rel {P : Program} {t : TypeId} {v : Value} {av : AV} {S : St} {g : G} {cell : Addr → Option Value} (h : cV P t v = some av) : VRel S g cell av v := by
  unfold cV at h
  split at h
  · cases h; exact .int _ _
  · cases h; exact .bool _
  · cases h; exact .str _
  · split at h
    · cases h; exact .nil _ _
    · cases h
  · rename_i cs
    split at h
    · rename_i zs hz
      split at h
      · rename_i hok
        cases h
        obtain ⟨h1, h2⟩ := zeros_rel (S := S) (g := g) (cell := cell) hok
        refine .agg zs cs (by simpa using h1) fun i v hv => ?_
        obtain ⟨cv, hcv, hr⟩ := h2 i v hv
        have : cs.getD i undef = cv := by
          rw [Array.getElem?_toList] at hcv
          simp [hcv]
        rw [this]; exact hr
      · cases h
    · cases h
  · rename_i vs
    split at h
    · rename_i he
      cases h
      have : vs = #[] := by simpa using he
      subst this
      exact .skp
    · cases h
  · cases h; exact .undef _
  · cases h; exact .undef _
  · cases h
theorem evalX_rel {P : Program} {t : TypeId} {x : Operand} {y : X} {S : St} {g : G} {cell : Addr → Option Value} {a : Act} (h : cX P t x = some y) (hT : TRel S g cell a) : VRel S g cell (evalX S y) (a.eval x) := by
  cases x with
  | tmp n =>
    simp only [cX, Option.some.injEq] at h; subst h
    simp only [evalX, Act.eval]
    by_cases hn : n < S.tmps.length
    · have := hT.val n (S.tmps[n]) (List.getElem?_eq_getElem hn)
      simpa [List.getD, List.getElem?_eq_getElem hn] using this
    · simp [List.getD, List.getElem?_eq_none (Nat.le_of_not_lt hn)]
      exact .undef _
  | const v =>
    simp only [cX, Option.map_eq_some_iff] at h
    obtain ⟨av, hv, rfl⟩ := h
    exact cV_rel hv
  | global g => simp [cX] at h
  | func f =>
    simp only [cX, Option.some.injEq] at h; subst h
    exact .fn f [] #[] rfl (fun i v hv => by simp at hv)

/-- Behind an operation. -/
structure Outc (w0 : World) (M : Nat → Nat → Path → Option Nat) (R : Nat → Prop) (S : St) (g : G) (S' : St) (v : AV) (cv : Value) (w' : World) (g' : G) : Prop where
  wrel : WRel w0 M R S' g' w'
  ext : Ext S g S' g'
  val : VRel S' g' (stab w0 R) v cv
theorem Outc.same {w0 : World} {M : Nat → Nat → Path → Option Nat} {R : Nat → Prop} {S : St} {g : G} {w : World} {v : AV} {cv : Value} (h : WRel w0 M R S g w) (hv : VRel S g (stab w0 R) v cv) : Outc w0 M R S g S v cv w g := ⟨h, .refl _ _, hv⟩

section inv
variable {S : St} {g : G} {cell : Addr → Option Value} {cv : Value}
theorem VRel.int_inv {k : IntKind} {n : Int} (h : VRel S g cell (.int k n) cv) : cv = .int k n := by cases h; rfl
theorem VRel.bool_inv {b : Bool} (h : VRel S g cell (.bool b) cv) : cv = .bool b := by cases h; rfl
theorem VRel.str_inv {s : ByteArray} (h : VRel S g cell (.str s) cv) : cv = .string s := by cases h; rfl
theorem VRel.nil_inv {fl : Bool} {sz : Nat} (h : VRel S g cell (.nil fl sz) cv) : cv = .slice none 0 0 := by cases h; rfl
theorem VRel.rd_inv {fl : Bool} {xs : List (List AV)} (h : VRel S g cell (.rd fl xs) cv) : Rd cell (.rd fl xs) cv := by cases h; assumption
theorem VRel.rptr_inv {cs : List AV} (h : VRel S g cell (.rptr cs) cv) : Rd cell (.rptr cs) cv := by cases h; assumption
theorem VRel.agg_inv {cs : List AV} (h : VRel S g cell (.agg cs) cv) : ∃ arr : Array Value, cv = .agg arr ∧ cs.length = arr.size ∧ ∀ i v, cs[i]? = some v → VRel S g cell v (arr.getD i Go.undef) := by
  cases h with | agg cs arr hl hr => exact ⟨arr, rfl, hl, hr⟩
theorem VRel.tup_inv {cs : List AV} (h : VRel S g cell (.tup cs) cv) : ∃ arr : Array Value, cv = .tuple arr ∧ cs.length = arr.size ∧ ∀ i v, cs[i]? = some v → VRel S g cell v (arr.getD i Go.undef) := by
  cases h with | tup cs arr hl hr => exact ⟨arr, rfl, hl, hr⟩
theorem VRel.fn_inv {f : Nat} {cs : List AV} (h : VRel S g cell (.fn f cs) cv) : ∃ arr : Array Value, cv = .func (.func f) #[] arr ∧ cs.length = arr.size ∧ ∀ i v, cs[i]? = some v → VRel S g cell v (arr.getD i Go.undef) := by
  cases h with | fn f cs arr hl hr => exact ⟨arr, rfl, hl, hr⟩
theorem VRel.sl_inv {lv s ver : Nat} {p : Path} {off len : Nat} (h : VRel S g cell (.sl lv s ver p off len) cv) : KeyOk S lv s ver ∧ ∀ b ys, S.at lv s ver p = some (b, ys) → SlRel g lv s p b ys off len cv := by
  cases h with | sl _ _ _ _ _ _ _ hk _ h => exact ⟨hk, h⟩
theorem VRel.ptr_inv {lv s ver : Nat} {p : Path} {i c : Nat} (h : VRel S g cell (.ptr lv s ver p i c) cv) : KeyOk S lv s ver ∧ ∀ b ys, S.at lv s ver p = some (b, ys) → PtrRel g lv s p b ys i c cv := by
  cases h with | ptr _ _ _ _ _ _ _ hk _ h => exact ⟨hk, h⟩
theorem VRel.skp_inv (h : VRel S g cell .skp cv) : cv = Go.undef := by cases h; rfl

/-- A value that is only read, as a value. -/
theorem Rd.vrel {v : AV} (h : Rd cell v cv) : VRel S g cell v cv := by
  induction h with
  | int k n => exact .int k n
  | bool b => exact .bool b
  | str s => exact .str s
  | undef v => exact .undef v
  | rd fl xs A cap sz cv h2 hsz hfl hc hr _ => exact .rd fl xs _ (.rd fl xs A cap sz cv h2 hsz hfl hc hr)
  | rptr a cs cv hc hr _ => exact .rptr cs _ (.rptr a cs cv hc hr)
  | fn f cs arr hl _ ih => exact .fn f cs arr hl ih
  | agg cs arr hl _ ih => exact .agg cs arr hl ih

/-- The cells of a value. -/
theorem cells_one {v : AV} {ws : List AV} (h : VRel S g cell v cv) (hw : v.cells = some [v]) (hc : v.cells = some ws) (h1 : cv.cells = #[cv]) : ws.length = cv.cells.size ∧ ∀ (i : Nat) (u : AV), ws[i]? = some u → VRel S g cell u (cv.cells.getD i Go.undef) := by
  rw [hw] at hc; cases hc
  rw [h1]
  refine ⟨rfl, fun i u hu => ?_⟩
  cases i with
  | zero => simp at hu; subst hu; simpa using h
  | succ i => simp at hu
theorem cells_rel {v : AV} {ws : List AV} (h : VRel S g cell v cv) (hc : v.cells = some ws) : ws.length = cv.cells.size ∧ ∀ (i : Nat) (u : AV), ws[i]? = some u → VRel S g cell u (cv.cells.getD i Go.undef) := by
  cases h with
  | agg cs arr hl hr => simp only [AV.cells, Option.some.injEq] at hc; subst hc; exact ⟨hl, hr⟩
  | int k n => exact cells_one (.int k n) rfl hc rfl
  | bool b => exact cells_one (.bool b) rfl hc rfl
  | str s => exact cells_one (.str s) rfl hc rfl
  | nil fl sz => exact cells_one (.nil fl sz) rfl hc rfl
  | skp => exact cells_one .skp rfl hc rfl
  | undef v => cases hc
  | rd fl xs _ h => exact cells_one (.rd fl xs _ h) rfl hc (by cases h; rfl)
  | rptr cs _ h => exact cells_one (.rptr cs _ h) rfl hc (by cases h; rfl)
  | sl lv s ver p off len _ hk hv h => exact cells_one (.sl lv s ver p off len _ hk hv h) rfl hc (by obtain ⟨A, l, c, rfl⟩ := hv; rfl)
  | ptr lv s ver p i c _ hk hv h => exact cells_one (.ptr lv s ver p i c _ hk hv h) rfl hc (by obtain ⟨x, rfl⟩ := hv; rfl)
  | fn f cs arr hl hr => exact cells_one (.fn f cs arr hl hr) rfl hc rfl
  | tup cs arr hl hr => cases hc
end inv
end Go.Ae
