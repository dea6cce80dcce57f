/- An abstract evaluator for the Go code of this seat: values, memory by places, the operations. Plain definitions; nothing of the machine. -/
import GoSem.Step
import Derived.Calls
namespace Go.Ae

abbrev Path := List (Nat × Nat)

inductive AV where
  | int (k : IntKind) (n : Int)
  | bool (b : Bool)
  | str (s : ByteArray)
  | nil (fl : Bool) (sz : Nat)
  | rd (fl : Bool) (xs : List (List AV))
  | own (fl : Bool) (xs : List (List AV))
  | sl (lv site ver : Nat) (p : Path) (off len : Nat)
  | ptr (lv site ver : Nat) (p : Path) (i c : Nat)
  | rptr (cells : List AV)
  | agg (cells : List AV)
  | fn (f : Nat) (caps : List AV)
  | tup (xs : List AV)
  | skp
  | undef
  deriving Inhabited

structure Blk where
  ver : Nat
  sz : Nat
  box : Bool
  fl : Bool
  elems : List (List AV)
  deriving Inhabited

abbrev Heap := List (Nat × Option Blk)

/-- An operand. -/
inductive X where
  | t (n : Nat)
  | k (v : AV)
  deriving Inhabited

/-- A scalar's kind. -/
inductive K3 where
  | i | b | s
  deriving DecidableEq, Inhabited

inductive I where
  | mv (x : X)
  | nil0 (fl : Bool) (sz : Nat)
  | pick (c a b : X)
  | alloc (cells : List AV)
  | box (x : X)
  | build (zero : List AV) (parts : List (Nat × Nat × X))
  | bslice (fl : Bool) (sz : Nat) (zero : List AV) (len : Nat) (parts : List (Nat × X))
  | load (n : Nat) (ag : Bool) (x : X)
  | store (n : Nat) (p x : X)
  | nilck (x : X)
  | bin (op : BinOp) (x y : X)
  | eqv (neg ag : Bool) (ks : List K3) (x y : X)
  | not (x : X)
  | neg (x : X)
  | conv (k : IntKind) (x : X)
  | strid (x : X)
  | s2b (x : X)
  | b2s (x : X)
  | mkf (f : Nat) (caps : List X)
  | mksl (fl : Bool) (sz bytes : Nat) (zero : List AV) (len cap : X)
  | cut (sz : Nat) (x : X) (lo hi : Option X)
  | scut (x : X) (lo hi : Option X)
  | faddr (off : Nat) (x : X)
  | field (off n : Nat) (ag : Bool) (x : X)
  | iaddr (sz : Nat) (x i : X)
  | idx (x i : X)
  | ext (x : X) (i : Nat)
  | call (f : Nat) (args : List X) (fl : Bool)
  | callv (x : X) (args : List X) (fl : Bool)
  | app (fl : Bool) (sz bytes : Nat) (s x : X)
  | len (str : Bool) (x : X)
  | max (x y : X)
  | min (x y : X)
  deriving Inhabited

/-- g: the guard's place and what it must say. base: where the sites of what is made here begin. ix: its place in the text. apart: addresses that it must not write to; of one that writes nothing: hints where its place lies, or what is there ahead of it. -/
structure IOp where
  dst : Option Nat
  op : I
  g : Option (Option Nat × Bool)
  base : Nat
  ix : Nat
  apart : List X
  deriving Inhabited

inductive C where
  | skip
  | reg (ops : List IOp)
  | seq (a b : C)
  | cond (c : X) (a b : C)
  | block (id : Nat) (c : C)
  | loop (keepT keepS : List Nat) (c : C)
  | exit (id : Nat)
  | ret
  | ifnil (neg : Bool) (d : Nat) (x : X) (a b : C)
  deriving Inhabited

inductive RV where
  | t (n : Nat)
  | cell (a n : Nat) (ag : Bool)
  deriving Inhabited

structure F where
  np : Nat
  ntmps : Nat
  res : List RV
  body : C
  deriving Inhabited

/-! ### References -/
mutual
/-- Each reference to a place, told anew. -/
def AV.mapR (g : Nat → Nat → Nat → Path → Option (Nat × Nat × Nat)) : AV → AV
  | .sl lv s v p off len => match g lv s v p with | some (lv', s', v') => .sl lv' s' v' p off len | none => .undef
  | .ptr lv s v p i c => match g lv s v p with | some (lv', s', v') => .ptr lv' s' v' p i c | none => .undef
  | .agg cs => .agg (AV.mapRs g cs)
  | .fn f cs => .fn f (AV.mapRs g cs)
  | .tup cs => .tup (AV.mapRs g cs)
  | .rptr cs => .rptr cs
  | v => v
def AV.mapRs (g : Nat → Nat → Nat → Path → Option (Nat × Nat × Nat)) : List AV → List AV
  | [] => []
  | v :: r => v.mapR g :: AV.mapRs g r
end

mutual
/-- What is owned inside, told as what is only read. -/
def AV.deep : AV → AV
  | .own fl xs => .rd fl (AV.deepRows xs)
  | v => v
def AV.deepRows : List (List AV) → List (List AV)
  | [] => []
  | r :: rs => AV.deepRow r :: AV.deepRows rs
def AV.deepRow : List AV → List AV
  | [] => []
  | v :: r => v.deep :: AV.deepRow r
end

/-- One cell of the machine's. -/
def AV.one : AV → Bool
  | .int .. | .bool _ | .str _ | .nil .. | .rd .. | .sl .. | .ptr .. | .rptr _ | .fn .. => true
  | _ => false
def AV.isNil : AV → Bool
  | .nil .. => true
  | _ => false
def AV.scal : AV → Bool
  | .int .. | .bool _ | .str _ => true
  | _ => false

/-! ### Memory -/
def Heap.get : Heap → Nat → Option (Option Blk)
  | [], _ => none
  | (t, b) :: r, s => if s = t then some b else Heap.get r s
def Heap.set : Heap → Nat → Option Blk → Heap
  | [], s, b => [(s, b)]
  | (t, c) :: r, s, b => if s = t then (s, b) :: r else if s < t then (s, b) :: (t, c) :: r else (t, c) :: Heap.set r s b

structure St where
  tmps : List AV
  loc : Heap
  ext : List Heap
  deriving Inhabited

def St.heap (st : St) : Nat → Heap
  | 0 => st.loc
  | n + 1 => st.ext.getD n []
def St.blk (st : St) (lv s : Nat) : Option Blk := match (st.heap lv).get s with | some (some b) => some b | _ => none
def St.put (st : St) (lv s : Nat) (b : Option Blk) : St := match lv with
  | 0 => { st with loc := st.loc.set s b }
  | n + 1 => { st with ext := st.ext.modify n fun h => h.set s b }

def cellAt (xs : List (List AV)) (i c : Nat) : Option AV := match xs[i]? with | some r => r[c]? | none => none
def setCell (xs : List (List AV)) (i c : Nat) (v : AV) : List (List AV) := xs.modify i fun r => r.set c v

def navE : List (List AV) → Path → Option (List (List AV))
  | xs, [] => some xs
  | xs, (i, c) :: p => match cellAt xs i c with | some (.own _ ys) => navE ys p | _ => none
def navSet : List (List AV) → Path → List (List AV) → List (List AV)
  | _, [], zs => zs
  | xs, (i, c) :: p, zs => match cellAt xs i c with | some (.own fl ys) => setCell xs i c (.own fl (navSet ys p zs)) | _ => xs

/-- A place's block and content, where the reference is good. -/
def St.at (st : St) (lv s v : Nat) (p : Path) : Option (Blk × List (List AV)) := match st.blk lv s with
  | some b => if v = b.ver then (match navE b.elems p with | some ys => some (b, ys) | none => none) else none
  | none => none

/-- Makes a new block at a site that bears none. -/
def St.new (st : St) (s : Nat) (b : Blk) : Option St := match st.loc.get s with
  | none => some { st with loc := st.loc.set s (some b) }
  | some _ => none

/-! ### By value: what a call that only reads is handed -/
/-- References in a block are told from the block's own level. -/
def upR (k : Nat) (lv s v : Nat) (_ : Path) : Option (Nat × Nat × Nat) := some (lv + k, s, v)

def mapO (f : AV → Option AV) : List AV → Option (List AV)
  | [] => some []
  | v :: r => match f v, mapO f r with
    | some v', some r' => some (v' :: r')
    | _, _ => none
def reify (st : St) : Nat → AV → Option AV
  | 0, _ => none
  | n + 1, v => match v with
    | .sl lv s ver p off len => match st.at lv s ver p with
      | some (b, ys) => if off + len ≤ ys.length ∧ b.box = false then some (.rd b.fl (if b.fl then (ys.drop off).take len else AV.deepRows ((ys.drop off).take len))) else none
      | none => none
    | .ptr lv s ver p i c => match st.at lv s ver p with
      | some (b, ys) => match ys[i]? with
        | some row => if c ≤ row.length then
            if b.box then match mapO (reify st n) (AV.mapRs (upR lv) (row.drop c)) with
              | some cs => some (.rptr cs)
              | none => none
            else some (.rptr (AV.deepRow (row.drop c))) else none
        | none => none
      | none => none
    | .agg cs => match mapO (reify st n) cs with | some cs => some (.agg cs) | none => none
    | .fn f cs => match mapO (reify st n) cs with | some cs => some (.fn f cs) | none => none
    | .nil fl _ => some (.rd fl [])
    | .tup _ => none
    | .own _ _ => none
    | .skp => none
    | v => some v

/-- The cells of a value; of an unknown one, none. -/
def AV.cells : AV → Option (List AV)
  | .agg cs => some cs
  | .undef => none
  | .tup _ => none
  | .own _ _ => none
  | v => some [v]
def AV.ofCells (ag : Bool) (cs : List AV) : Option AV :=
  if ag then some (.agg cs) else match cs with | [v] => some v | _ => none

/-- Cells for a variable of the call's own: a nil slice gets a block (of no cells) of its own. -/
def boxCells (base : Nat) : List AV → Option (List AV × List (Nat × Blk))
  | [] => some ([], [])
  | v :: r => match boxCells (base + 1) r with
    | some (r', n) => match v with
      | .nil fl sz => some (.sl 0 base 0 [] 0 0 :: r', (base, { ver := 0, sz, box := false, fl, elems := [] }) :: n)
      | .own _ _ => none
      | v => some (v :: r', n)
    | none => none

/-- Cells for an element of a row of the call's own. -/
def rowCells (fl : Bool) : List AV → Option (List AV)
  | [] => some []
  | v :: r => match rowCells fl r with
    | some r' => match v with
      | .nil f _ => if fl then none else some (.own f [] :: r')
      | v => if v.scal then some (v :: r') else none
    | none => none

/-- An element's cells as they are handed on: what is owned inside, by its place. -/
def outCells (lv s ver : Nat) (p : Path) (i : Nat) : Nat → List AV → List AV
  | _, [] => []
  | c, v :: r => match v with
    | .own _ ys => .sl lv s ver (p ++ [(i, c)]) 0 ys.length :: outCells lv s ver p i (c + 1) r
    | v => v.mapR (upR lv) :: outCells lv s ver p i (c + 1) r

def zeroRow (zero : List AV) : List AV := zero.map fun v => match v with | .nil f _ => .own f [] | v => v

def bytesOf : List (List AV) → Option (List UInt8)
  | [] => some []
  | [.int .u8 n] :: r => match bytesOf r with | some l => some (UInt8.ofNat n.toNat :: l) | none => none
  | _ => none
def rowsOf (s : ByteArray) : List (List AV) := s.data.toList.map fun b => [.int .u8 b.toNat]

/-! ### Operators -/
def evalBin (op : BinOp) (x y : AV) : Option AV := match x, y with
  | .int k a, .int k' b => match op with
    | .shl => if 0 ≤ b then some (.int k (k.wrap (a * 2 ^ (Nat.min b.toNat k.bits)))) else none
    | .shr => if 0 ≤ b then some (.int k (a.fdiv (2 ^ (Nat.min b.toNat k.bits)))) else none
    | op => if k = k' then (match op with
      | .add => some (.int k (k.wrap (a + b)))
      | .sub => some (.int k (k.wrap (a - b)))
      | .mul => some (.int k (k.wrap (a * b)))
      | .quo => if b = 0 then none else some (.int k (k.wrap (a.tdiv b)))
      | .rem => if b = 0 then none else some (.int k (a.tmod b))
      | .and => some (.int k (k.wrap (BitVec.ofInt k.bits a &&& BitVec.ofInt k.bits b).toNat))
      | .or => some (.int k (k.wrap (BitVec.ofInt k.bits a ||| BitVec.ofInt k.bits b).toNat))
      | .xor => some (.int k (k.wrap (BitVec.ofInt k.bits a ^^^ BitVec.ofInt k.bits b).toNat))
      | .eql => some (.bool (a == b))
      | .neq => some (.bool (a != b))
      | .lss => some (.bool (a < b))
      | .leq => some (.bool (a ≤ b))
      | .gtr => some (.bool (a > b))
      | .geq => some (.bool (a ≥ b))
      | _ => none) else none
  | .str a, .str b => match op with
    | .add => if ((a.size + b.size : Nat) : Int) > IntKind.i64.max then none else some (.str (a ++ b))
    | .eql => some (.bool (a.toList == b.toList))
    | .neq => some (.bool (!(a.toList == b.toList)))
    | .lss => some (.bool (Op.bytesLess a.toList b.toList))
    | .leq => some (.bool (Op.bytesLess a.toList b.toList || a.toList == b.toList))
    | .gtr => some (.bool (!(Op.bytesLess a.toList b.toList || a.toList == b.toList)))
    | .geq => some (.bool (!(Op.bytesLess a.toList b.toList)))
    | _ => none
  | _, _ => none

/-- '==' of scalars, cell by cell. -/
def eqCell : K3 → AV → AV → Option Bool
  | .i, .int k a, .int k' b => if k = k' then some (a == b) else none
  | .b, .bool a, .bool b => some (a == b)
  | .s, .str a, .str b => some (a.toList == b.toList)
  | _, _, _ => none
def eqCells : List K3 → List AV → List AV → Option Bool
  | [], [], [] => some true
  | k :: ks, a :: r, b :: s => match eqCell k a b, eqCells ks r s with
    | some x, some y => some (x && y)
    | _, _ => none
  | _, _, _ => none
def evalEq (ag : Bool) (ks : List K3) (x y : AV) : Option Bool :=
  if ag then match x, y with
    | .agg a, .agg b => eqCells ks a b
    | _, _ => none
  else eqCells ks [x] [y]

def evalX (st : St) : X → AV
  | .t n => st.tmps.getD n .undef
  | .k v => v
def evalXs (st : St) : List X → List AV
  | [] => []
  | x :: r => evalX st x :: evalXs st r
def evalP (st : St) : List (Nat × X) → List (Nat × AV)
  | [] => []
  | (i, x) :: r => (i, evalX st x) :: evalP st r

def fillCells (st : St) (cs : List AV) : List (Nat × Nat × X) → Option (List AV)
  | [] => some cs
  | (off, n, x) :: r => match (evalX st x).cells with
    | some ws => if ws.length = n ∧ off + n ≤ cs.length then fillCells st (cs.take off ++ ws ++ cs.drop (off + n)) r else none
    | none => none
def fillRows (fl : Bool) (sz : Nat) (rows : List (List AV)) : List (Nat × AV) → Option (List (List AV))
  | [] => some rows
  | (i, v) :: r => match v.cells with
    | some ws => if i < rows.length ∧ ws.length = sz then match rowCells fl ws with
        | some cs => fillRows fl sz (rows.set i cs) r
        | none => none
      else none
    | none => none

/-- A bound of a cut. -/
def bound (d : Nat) (most : Nat) : Option AV → Option Nat
  | none => some d
  | some (.int _ n) => if 0 ≤ n ∧ n ≤ most then some n.toNat else none
  | some _ => none
def evalO (st : St) : Option X → Option AV
  | none => none
  | some x => some (evalX st x)

/-- What a call answers: its value (level 0: the places of what it made, in order), what it made, what the callers' memory is. -/
structure Res where
  val : AV
  blks : List Blk
  ext : List Heap
  deriving Inhabited

abbrev Oracle := Nat → List AV → List Heap → Option Res

mutual
/-- No place of one's own is in it. -/
def AV.stable : AV → Bool
  | .sl .. | .ptr .. | .own .. => false
  | .agg cs => AV.stables cs
  | .fn _ cs => AV.stables cs
  | .tup cs => AV.stables cs
  | _ => true
def AV.stables : List AV → Bool
  | [] => true
  | v :: r => v.stable && AV.stables r
end
mutual
/-- Something that is only read is in it. -/
def AV.bears : AV → Bool
  | .rd .. | .rptr _ => true
  | .agg cs => AV.bearss cs
  | .fn _ cs => AV.bearss cs
  | .tup cs => AV.bearss cs
  | _ => false
def AV.bearss : List AV → Bool
  | [] => false
  | v :: r => v.bears || AV.bearss r
end
def Blk.bears (b : Blk) : Bool := b.box && b.elems.any AV.bearss

/-- What an operation makes, laid into the memory. -/
def addNews (st : St) : List (Nat × Blk) → Option St
  | [] => some st
  | (s, b) :: r => match st.new s b with
    | some st' => addNews st' r
    | none => none
def numbered (base : Nat) : List Blk → List (Nat × Blk)
  | [] => []
  | b :: r => (base, b) :: numbered (base + 1) r

/-- How a function is handed what it is handed: by value; by reference, to be read; by reference. -/
inductive Mode where
  | val | view | ref
  deriving DecidableEq, Inhabited

def injR (base : Nat) (lv s v : Nat) (_ : Path) : Option (Nat × Nat × Nat) := match lv with
  | 0 => some (0, base + s, v)
  | n + 1 => some (n, s, v)
def Blk.mapR (g : Nat → Nat → Nat → Path → Option (Nat × Nat × Nat)) (b : Blk) : Blk :=
  if b.box then { b with elems := b.elems.map fun r => AV.mapRs g r } else b

def shiftR (lv s v : Nat) (_ : Path) : Option (Nat × Nat × Nat) := some (lv + 1, s, v)

def callVal (O : Oracle) (st : St) (base : Nat) (f : Nat) (args : List AV) (fl : Bool) : Option (AV × List (Nat × Blk)) :=
  match mapO (reify st 8) args with
  | some as => match O f as [] with
    | some r => if (fl && !r.blks.isEmpty) || !r.ext.isEmpty then none
      else if (r.val.bears || r.blks.any Blk.bears) && !(AV.stables args) then none
      else some (r.val.mapR (injR base), numbered base (r.blks.map (Blk.mapR (injR base))))
    | none => none
  | none => none
open Classical in
noncomputable def callView (O : Oracle) (st : St) (f : Nat) (args : List AV) : Option AV :=
  match O f (args.map (AV.mapR shiftR)) (st.loc :: st.ext) with
  | some r => if r.blks.isEmpty then (if r.ext = st.loc :: st.ext then some (r.val.mapR (injR 0)) else none) else none
  | none => none
def callRef (O : Oracle) (st : St) (base : Nat) (f : Nat) (args : List AV) (fl : Bool) : Option (AV × St) :=
  match O f (args.map (AV.mapR shiftR)) (st.loc :: st.ext) with
  | some r => if fl && !r.blks.isEmpty then none else
    match r.ext with
    | l :: e => match addNews { st with loc := l, ext := e } (numbered base (r.blks.map (Blk.mapR (injR base)))) with
      | some st' => some (r.val.mapR (injR base), st')
      | none => none
    | [] => none
  | none => none

/-- An operation that writes nothing: its value, what it makes. -/
noncomputable def evalQ (O : Oracle) (md : Nat → Mode) (st : St) (base : Nat) : I → Option (AV × List (Nat × Blk))
  | .mv x => some (evalX st x, [])
  | .nil0 fl sz => some (.sl 0 base 0 [] 0 0, [(base, { ver := 0, sz, box := false, fl, elems := [] })])
  | .pick c a b => match evalX st c with
    | .bool true => some (evalX st a, [])
    | .bool false => some (evalX st b, [])
    | _ => none
  | .alloc ws => match boxCells (base + 1) ws with
    | some (cs, n) => if cs.isEmpty then none else some (.ptr 0 base 0 [] 0 0, n ++ [(base, { ver := 0, sz := cs.length, box := true, fl := false, elems := [cs] })])
    | none => none
  | .box x => match (evalX st x).cells with
    | some ws => match boxCells (base + 1) ws with
      | some (cs, n) => if cs.isEmpty then none else some (.ptr 0 base 0 [] 0 0, n ++ [(base, { ver := 0, sz := cs.length, box := true, fl := false, elems := [cs] })])
      | none => none
    | none => none
  | .build zero parts => match fillCells st zero parts with
    | some cs => some (.agg cs, [])
    | none => none
  | .bslice fl sz zero len parts => match fillRows fl sz (List.replicate len (zeroRow zero)) (evalP st parts) with
    | some rows => if (fl = true → zero.all AV.scal) ∧ (zero.all fun v => v.scal || v.isNil) ∧ zero.length = sz then some (.sl 0 base 0 [] 0 len, [(base, { ver := 0, sz, box := false, fl, elems := rows })]) else none
    | none => none
  | .load n ag x => match evalX st x with
    | .ptr lv s ver p i c => match st.at lv s ver p with
      | some (_, ys) => match ys[i]? with
        | some row => if c + n ≤ row.length then match AV.ofCells ag (outCells lv s ver p i c ((row.drop c).take n)) with
            | some v => some (v, [])
            | none => none
          else none
        | none => none
      | none => none
    | .rptr cs => if n ≤ cs.length then match AV.ofCells ag (cs.take n) with
        | some v => some (v, [])
        | none => none
      else none
    | _ => none
  | .strid x => match evalX st x with
    | .str s => some (.str s, [])
    | _ => none
  | .nilck x => match evalX st x with
    | .ptr lv s ver p i c => match st.at lv s ver p with
      | some _ => some (.ptr lv s ver p i c, [])
      | none => none
    | .rptr cs => some (.rptr cs, [])
    | .fn f cs => some (.fn f cs, [])
    | _ => none
  | .bin op x y => match evalBin op (evalX st x) (evalX st y) with
    | some v => some (v, [])
    | none => none
  | .eqv neg ag ks x y => match evalEq ag ks (evalX st x) (evalX st y) with
    | some b => some (.bool (if neg then !b else b), [])
    | none => none
  | .not x => match evalX st x with
    | .bool b => some (.bool (!b), [])
    | _ => none
  | .neg x => match evalX st x with
    | .int k n => some (.int k (k.wrap (0 - n)), [])
    | _ => none
  | .conv k x => match evalX st x with
    | .int _ n => some (.int k (k.wrap n), [])
    | _ => none
  | .s2b x => match evalX st x with
    | .str s => some (.sl 0 base 0 [] 0 s.size, [(base, { ver := 0, sz := 1, box := false, fl := true, elems := rowsOf s })])
    | _ => none
  | .b2s x => match evalX st x with
    | .sl lv s ver p off len => match st.at lv s ver p with
      | some (b, ys) => if off + len ≤ ys.length ∧ b.box = false then match bytesOf ((ys.drop off).take len) with
          | some l => some (.str ⟨l.toArray⟩, [])
          | none => none
        else none
      | none => none
    | .rd _ ys => match bytesOf ys with
      | some l => some (.str ⟨l.toArray⟩, [])
      | none => none
    | .nil _ _ => some (.str ByteArray.empty, [])
    | _ => none
  | .mkf f caps => some (.fn f (evalXs st caps), [])
  | .mksl fl sz bytes zero len cap => match evalX st len, evalX st cap with
    | .int .i64 n, .int .i64 m => if 0 ≤ n ∧ n ≤ m ∧ m * bytes ≤ 140737488355328 ∧ m ≤ 140737488355328 ∧ zero.length = sz ∧ (fl = true → zero.all AV.scal) ∧ (zero.all fun v => v.scal || v.isNil) then
        some (.sl 0 base 0 [] 0 n.toNat, [(base, { ver := 0, sz, box := false, fl, elems := List.replicate n.toNat (zeroRow zero) })])
      else none
    | _, _ => none
  | .cut sz x lo hi => match evalX st x with
    | .sl lv s ver p off len => match st.at lv s ver p with
      | some (b, ys) => if off + len ≤ ys.length ∧ b.box = false ∧ (p = [] → b.sz = sz) ∧ (p = [] ∨ ys.all fun r => r.length == sz) then
          match bound len len (evalO st hi) with
          | some h => match bound 0 h (evalO st lo) with
            | some l => some (.sl lv s ver p (off + l) (h - l), [])
            | none => none
          | none => none
        else none
      | none => none
    | .rd fl ys => if (ys.all fun r => r.length == sz) then match bound ys.length ys.length (evalO st hi) with
        | some h => match bound 0 h (evalO st lo) with
          | some l => some (.rd fl ((ys.take h).drop l), [])
          | none => none
        | none => none
      else none
    | .nil fl z => match bound 0 0 (evalO st hi) with
      | some h => match bound 0 h (evalO st lo) with
        | some _ => some (.nil fl z, [])
        | none => none
      | none => none
    | _ => none
  | .scut x lo hi => match evalX st x with
    | .str s => match bound s.size s.size (evalO st hi) with
      | some h => match bound 0 h (evalO st lo) with
        | some l => some (.str (s.extract l h), [])
        | none => none
      | none => none
    | _ => none
  | .faddr off x => match evalX st x with
    | .ptr lv s ver p i c => match st.at lv s ver p with
      | some _ => some (.ptr lv s ver p i (c + off), [])
      | none => none
    | .rptr cs => if off ≤ cs.length then some (.rptr (cs.drop off), []) else none
    | _ => none
  | .field off n ag x => match evalX st x with
    | .agg cs => if off + n ≤ cs.length then match AV.ofCells ag ((cs.drop off).take n) with
        | some v => some (v, [])
        | none => none
      else none
    | _ => none
  | .iaddr sz x i => match evalX st x, evalX st i with
    | .sl lv s ver p off len, .int _ n => if 0 ≤ n ∧ n < len then
        match st.at lv s ver p with
        | some (b, ys) => match ys[off + n.toNat]? with
          | some row => if row.length = sz ∧ b.box = false then some (.ptr lv s ver p (off + n.toNat) 0, []) else none
          | none => none
        | none => none
      else none
    | .rd _ ys, .int _ n => if 0 ≤ n then match ys[n.toNat]? with
        | some row => if row.length = sz then some (.rptr row, []) else none
        | none => none
      else none
    | _, _ => none
  | .idx x i => match evalX st x, evalX st i with
    | .str s, .int _ n => if 0 ≤ n then match s[n.toNat]? with
        | some b => some (.int .u8 b.toNat, [])
        | none => none
      else none
    | _, _ => none
  | .ext x i => match evalX st x with
    | .tup vs => match vs[i]? with
      | some v => some (v, [])
      | none => none
    | _ => none
  | .call f args fl => match md f with
    | .val => callVal O st base f (evalXs st args) fl
    | .view => match callView O st f (evalXs st args) with
      | some v => some (v, [])
      | none => none
    | .ref => none
  | .len true x => match evalX st x with
    | .str s => some (.int .i64 s.size, [])
    | _ => none
  | .len false x => match evalX st x with
    | .sl lv s ver p _ len => match st.at lv s ver p with
      | some _ => some (.int .i64 len, [])
      | none => none
    | .rd _ ys => some (.int .i64 ys.length, [])
    | .nil _ _ => some (.int .i64 0, [])
    | _ => none
  | .max x y => match evalX st x, evalX st y with
    | .int k a, .int k' b => if k = k' then some (.int k (if b > a then b else a), []) else none
    | _, _ => none
  | .min x y => match evalX st x, evalX st y with
    | .int k a, .int k' b => if k = k' then some (.int k (if b < a then b else a), []) else none
    | _, _ => none
  | _ => none

/-- The rows that an append appends, and the memory when they have been taken. -/
def source (st : St) : AV → Option (List (List AV))
  | .nil _ _ => some []
  | .rd true ys => some ys
  | .sl lv s ver p off len => match st.at lv s ver p with
    | some (b, ys) => if b.box = false ∧ off + len ≤ ys.length then
        if b.fl then some ((ys.drop off).take len) else none
      else none
    | none => none
  | _ => none

/-- An operation that may write. -/
noncomputable def evalW (O : Oracle) (md : Nat → Mode) (st : St) (base : Nat) : I → Option (AV × St)
  | .store n a x => match evalX st a, (evalX st x).cells with
    | .ptr lv s ver p i c, some ws => match st.at lv s ver p with
      | some (b, ys) => match ys[i]? with
        | some row => if c + n ≤ row.length ∧ ws.length = n ∧ ws.all AV.one then
            if b.box then
              if lv ≠ 0 then (if ws.all AV.scal then some (.skp, st.put lv s (some { b with elems := ys.set i (row.take c ++ ws ++ row.drop (c + n)) })) else none)
              else match boxCells (base + 1) ws with
              | some (cs, news) => match addNews st news with
                | some st' => some (.skp, st'.put lv s (some { b with elems := ys.set i (row.take c ++ cs ++ row.drop (c + n)) }))
                | none => none
              | none => none
            else match p with
              | [] => match rowCells b.fl ws with
                | some cs => some (.skp, st.put lv s (some { b with ver := if b.fl then b.ver else b.ver + 1, elems := ys.set i (row.take c ++ cs ++ row.drop (c + n)) }))
                | none => none
              | _ => none
          else none
        | none => none
      | none => none
    | _, _ => none
  | .call f args fl => match md f with
    | .ref => callRef O st base f (evalXs st args) fl
    | _ => none
  | .callv x args fl => match evalX st x with
    | .fn f caps => match md f with
      | .val => match callVal O st base f (evalXs st args ++ caps) fl with
        | some (v, n) => match addNews st n with
          | some st' => some (v, st')
          | none => none
        | none => none
      | .view => match callView O st f (evalXs st args ++ caps) with
        | some v => some (v, st)
        | none => none
      | .ref => callRef O st base f (evalXs st args ++ caps) fl
    | _ => none
  | .app fl sz bytes s x => match source st (evalX st x) with
    | some ys => if (ys.all fun r => r.length == sz) then match evalX st s with
      | .nil _ _ => if ys.length * bytes ≤ 140737488355328 ∧ ys.length ≤ 140737488355328 then
          match st.new base { ver := 0, sz, box := false, fl, elems := ys } with
          | some st' => some (.sl 0 base 0 [] 0 ys.length, st')
          | none => none
        else none
      | .sl lv s ver [] 0 len => match st.at lv s ver [] with
        | some (b, xs) => if b.box = false ∧ b.fl = fl ∧ b.sz = sz ∧ len = xs.length ∧ (xs.length + ys.length) * bytes ≤ 140737488355328 ∧ xs.length + ys.length ≤ 140737488355328 then
            some (.sl lv s (ver + 1) [] 0 (len + ys.length), st.put lv s (some { b with ver := b.ver + 1, elems := xs ++ ys }))
          else none
        | none => none
      | _ => none
      else none
    | none => none
  | _ => none

def writes (md : Nat → Mode) : I → Bool
  | .store .. | .app .. | .callv .. => true
  | .call f _ _ => md f == .ref
  | _ => false

/-- The places that a store or an append writes to, or takes whole. -/
def wplaces (st : St) : I → List (Nat × Nat)
  | .store _ a x => (match evalX st a with | .ptr lv s _ _ _ _ => [(lv, s)] | _ => []) ++ (((evalX st x).cells.getD []).filterMap fun | .sl lv s _ _ _ _ => some (lv, s) | _ => none)
  | .app _ _ _ s x => (match evalX st s with | .sl lv s _ _ _ _ => [(lv, s)] | _ => []) ++ (match evalX st x with | .sl lv s _ _ _ _ => [(lv, s)] | _ => [])
  | _ => []
def apartOk (st : St) (op : I) : List X → Bool
  | [] => true
  | x :: r => (match evalX st x with
    | .ptr lv s _ _ _ _ => !(wplaces st op).contains (lv, s)
    | .sl lv s _ _ _ _ => !(wplaces st op).contains (lv, s)
    | .rptr _ | .rd .. | .nil .. => true
    | _ => false) && apartOk st op r

/-- The one place that it reads. -/
def readsAt : I → Option X
  | .load _ _ a | .b2s a | .cut _ a _ _ | .iaddr _ a _ | .len false a | .nilck a | .faddr _ a => some a
  | _ => none
def placeOf : AV → Option (Nat × Nat)
  | .sl lv s _ _ _ _ => some (lv, s)
  | .ptr lv s _ _ _ _ => some (lv, s)
  | _ => none
/-- Its place is that of each of these. -/
def rootsOk (st : St) (a : X) : List X → Bool
  | [] => true
  | x :: r => (placeOf (evalX st x) == placeOf (evalX st a)) && rootsOk st a r
/-- The places of these are there. -/
def keyedOk (st : St) : List X → Bool
  | [] => true
  | x :: r => (match placeOf (evalX st x) with
    | some (lv, s) => ((st.heap lv).get s).isSome
    | none => true) && keyedOk st r
/-- What the hints of an operation that writes nothing say. -/
def quietOk (st : St) (op : I) (ap : List X) : Bool := match readsAt op with
  | some a => rootsOk st a ap
  | none => keyedOk st ap

def St.setT (st : St) (d : Option Nat) (v : AV) : St := match d with
  | some d => { st with tmps := st.tmps.set d v }
  | none => st

inductive Ex where
  | normal
  | exit (id : Nat)
  | ret

/-- One operation; none: the evaluator does not know. -/
noncomputable def evalI (O : Oracle) (md : Nat → Mode) (o : IOp) (st : St) : Option St :=
  if writes md o.op then
    if apartOk st o.op o.apart && keyedOk st o.apart then match evalW O md st o.base o.op with
      | some (v, st') => some (st'.setT o.dst v)
      | none => none
    else none
  else if quietOk st o.op o.apart then match evalQ O md st o.base o.op with
    | some (v, n) => match addNews st n with
      | some st' => some (st'.setT o.dst v)
      | none => none
    | none => none
  else none

def guardOf (st : St) : Option (Option Nat × Bool) → Option Bool
  | none => some true
  | some (none, _) => some false
  | some (some t, want) => match st.tmps[t]? with
    | some (.bool b) => some (b == want)
    | some .skp => some false
    | _ => none

noncomputable def evalOp (O : Oracle) (md : Nat → Mode) (o : IOp) (st : St) : Option St :=
  match guardOf st o.g with
  | some true => evalI O md o st
  | some false => some (st.setT o.dst .skp)
  | none => none

noncomputable def evalOps (O : Oracle) (md : Nat → Mode) : List IOp → St → Option St
  | [], st => some st
  | o :: r, st => match evalOp O md o st with
    | some st' => evalOps O md r st'
    | none => none

/-! ### A round's head: what is dead is forgotten -/
def scrubR (st : St) (keepS : List Nat) (lv s v : Nat) (_ : Path) : Option (Nat × Nat × Nat) := match lv with
  | 0 => if keepS.contains s then match st.blk 0 s with
      | some b => if v = b.ver then some (0, s, 0) else none
      | none => none
    else none
  | n + 1 => some (n + 1, s, v)
def cleanT (st : St) (keepT keepS : List Nat) : Nat → List AV → List AV
  | _, [] => []
  | i, v :: r => (if keepT.contains i then v.mapR (scrubR st keepS) else .undef) :: cleanT st keepT keepS (i + 1) r
def cleanH (st : St) (keepS : List Nat) : Heap → Heap
  | [] => []
  | (s, b) :: r => if keepS.contains s then (s, match b with | some b => some { Blk.mapR (scrubR st keepS) b with ver := 0 } | none => none) :: cleanH st keepS r else cleanH st keepS r
def St.clean (keepT keepS : List Nat) (st : St) : St :=
  { tmps := cleanT st keepT keepS 0 st.tmps, loc := cleanH st keepS st.loc, ext := st.ext }

def iter (clean : St → St) (step : St → Option (Ex × St)) : Nat → St → Option (Ex × St)
  | 0, _ => none
  | n + 1, st => match step (clean st) with
    | some (.normal, st') => iter clean step n st'
    | r => r

def LF : Nat := 18446744073709551616

noncomputable def exec (O : Oracle) (md : Nat → Mode) : C → St → Option (Ex × St)
  | .skip, st => some (.normal, st)
  | .reg ops, st => match evalOps O md ops st with
    | some st' => some (.normal, st')
    | none => none
  | .seq a b, st => match exec O md a st with
    | some (.normal, st') => exec O md b st'
    | r => r
  | .cond c a b, st => match evalX st c with
    | .bool true => exec O md a st
    | .bool false => exec O md b st
    | _ => none
  | .block id c, st => match exec O md c st with
    | some (.exit j, st') => if j = id then some (.normal, st') else some (.exit j, st')
    | r => r
  | .loop kt ks c, st => iter (St.clean kt ks) (exec O md c) LF st
  | .exit id, st => some (.exit id, st)
  | .ret, st => some (.ret, st)
  | .ifnil .., _ => none

def AV.slice : AV → Bool
  | .nil .. | .rd .. | .sl .. => true
  | _ => false
/-- Surely not nil. -/
def nonNil (st : St) : AV → Bool
  | .rd _ ((_ :: _) :: _) => true
  | .sl lv s ver p _ len => decide (0 < len) && (st.at lv s ver p).isSome
  | _ => false
def bindAll {α β : Type} (f : α → Option (List β)) : List α → Option (List β)
  | [] => some []
  | a :: r => match f a, bindAll f r with
    | some l, some m => some (l ++ m)
    | _, _ => none
/-- All that it may come to, where it is asked whether a slice is nil. -/
noncomputable def execs (O : Oracle) (md : Nat → Mode) : C → St → Option (List (Ex × St))
  | .seq a b, st => match execs O md a st with
    | some l => bindAll (fun p => match p.1 with
      | .normal => execs O md b p.2
      | e => some [(e, p.2)]) l
    | none => none
  | .cond c a b, st => match evalX st c with
    | .bool true => execs O md a st
    | .bool false => execs O md b st
    | _ => none
  | .block id c, st => match execs O md c st with
    | some l => some (l.map fun p => match p.1 with
      | .exit j => if j = id then (.normal, p.2) else p
      | _ => p)
    | none => none
  | .ifnil neg d x a b, st => if (evalX st x).slice && decide (d < st.tmps.length) then
      if nonNil st (evalX st x) then (if neg then execs O md a (st.setT (some d) .undef) else execs O md b (st.setT (some d) .undef))
      else match execs O md a (st.setT (some d) .undef), execs O md b (st.setT (some d) .undef) with
      | some l, some m => some (l ++ m)
      | _, _ => none
    else none
  | c, st => match exec O md c st with
    | some p => some [p]
    | none => none

/-! ### A call -/
def evalRV (st : St) : RV → Option AV
  | .t n => some (st.tmps.getD n .undef)
  | .cell a n ag => match st.tmps.getD a .undef with
    | .ptr lv s ver p i c => match st.at lv s ver p with
      | some (_, ys) => match ys[i]? with
        | some row => if c + n ≤ row.length then AV.ofCells ag (outCells lv s ver p i c ((row.drop c).take n)) else none
        | none => none
      | none => none
    | _ => none
def evalRVs (st : St) : List RV → Option (List AV)
  | [] => some []
  | r :: rs => match evalRV st r, evalRVs st rs with
    | some v, some vs => some (v :: vs)
    | _, _ => none

/-- The sites of its own that a value leads to. -/
def reach (st : St) : Nat → AV → List Nat
  | 0, _ => []
  | n + 1, v => match v with
    | .sl 0 s _ _ _ _ => [s]
    | .ptr 0 s _ _ _ _ => match st.blk 0 s with
      | some b => if b.box then s :: (b.elems.flatten).flatMap (reach st n) else [s]
      | none => []
    | .agg cs => cs.flatMap (reach st n)
    | .fn _ cs => cs.flatMap (reach st n)
    | .tup cs => cs.flatMap (reach st n)
    | _ => []
def outR (st : St) (sites : List Nat) (lv s v : Nat) (_ : Path) : Option (Nat × Nat × Nat) := match lv with
  | 0 => match st.blk 0 s with
    | some b => if v = b.ver ∧ sites.contains s then some (0, sites.idxOf s, 0) else none
    | none => none
  | n + 1 => some (n + 1, s, v)
def outBlks (st : St) (sites : List Nat) : List Nat → Option (List Blk)
  | [] => some []
  | s :: r => match st.blk 0 s, outBlks st sites r with
    | some b, some bs => some ({ Blk.mapR (outR st sites) b with ver := 0 } :: bs)
    | _, _ => none
def finish (st : St) (v : AV) : Option Res :=
  if (reach st 8 v).eraseDups.Nodup then
    match outBlks st (reach st 8 v).eraseDups (reach st 8 v).eraseDups with
    | some bs => some { val := v.mapR (outR st (reach st 8 v).eraseDups), blks := bs, ext := st.ext }
    | none => none
  else none

def finOf (res : List RV) (p : Ex × St) : Option Res := match p.1 with
  | .exit _ => none
  | _ => match evalRVs p.2 res with
    | some [v] => finish p.2 v
    | some vs => finish p.2 (.tup vs)
    | none => none
open Classical in
noncomputable def runF (O : Oracle) (md : Nat → Mode) (fn : F) (args : List AV) (E : List Heap) : Option Res :=
  if args.length = fn.np then
    match execs O md fn.body { tmps := args ++ List.replicate (fn.ntmps - args.length) .skp, loc := [], ext := E } with
    | some (p :: l) => match finOf fn.res p with
      | some r => if ∀ q ∈ l, finOf fn.res q = some r then some r else none
      | none => none
    | _ => none
  else none

structure Prog where
  fn : Nat → Option F
  md : Nat → Mode
  nat : Nat → Option (List AV → Option (AV × List Blk))

/-- A call, n deep at most. -/
noncomputable def call (p : Prog) : Nat → Oracle
  | 0, _, _, _ => none
  | n + 1, f, args, E => match p.nat f with
    | some g => match g args with
      | some (v, bs) => some { val := v, blks := bs, ext := E }
      | none => none
    | none => match p.fn f with
      | some fn => runF (call p n) p.md fn args E
      | none => none
end Go.Ae
