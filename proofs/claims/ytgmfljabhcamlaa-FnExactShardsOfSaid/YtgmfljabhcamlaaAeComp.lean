/- What Go code the evaluator's code is: the reading of the program's operations, and which orders it may ignore. -/
import Derived.Test.YtgmfljabhcamlaaAeDefs
import GoSem.Core.Region
namespace Go.Ae

def tyD : Nat := 24
def flatT (P : Program) : Nat → TypeId → Bool
  | 0, _ => false
  | d + 1, t => match P.underlying t with
    | some .bool | some (.int _) | some .string => true
    | some (.struct fs) => fs.toList.all fun f => flatT P d f.type
    | _ => false
def zeroT (P : Program) : Nat → TypeId → Option (List AV)
  | 0, _ => none
  | d + 1, t => match P.underlying t with
    | some .bool => some [.bool false]
    | some (.int k) => some [.int k 0]
    | some .string => some [.str ByteArray.empty]
    | some (.slice e) => some [.nil (flatT P tyD e) (P.cellsOf e)]
    | some (.struct fs) => fs.toList.foldr (fun f acc => match zeroT P d f.type, acc with | some a, some b => some (a ++ b) | _, _ => none) (some [])
    | some (.pointer _) | some (.func ..) => some [.undef]
    | _ => none
def zeroCellOk : AV → Value → Bool
  | .int k n, .int k' n' => k == k' && n == n'
  | .bool b, .bool b' => b == b'
  | .str s, .string s' => s.toList.isEmpty && s'.toList.isEmpty && s.size == 0 && s'.size == 0
  | .nil _ _, .slice none 0 0 => true
  | .undef, _ => true
  | _, _ => false
def zerosOk : List AV → List Value → Bool
  | [], [] => true
  | a :: r, b :: s => zeroCellOk a b && zerosOk r s
  | _, _ => false
/-- The cells of a type's zero value, held against the program's own. -/
def zeroOf (P : Program) (t : TypeId) : Option (List AV) := match zeroT P tyD t, P.info? t with
  | some cs, some i => match i.zero with
    | some z => if zerosOk cs z.cells.toList && cs.length == i.size then some cs else none
    | none => none
  | _, _ => none
def aggT (P : Program) (t : TypeId) : Option Bool := match P.underlying t with
  | some (.struct _) => some true
  | some (.array _ _) => none
  | some _ => some false
  | none => none

def cV (P : Program) (t : TypeId) : Value → Option AV
  | .int k n => some (.int k n)
  | .bool b => some (.bool b)
  | .string s => some (.str s)
  | .slice none 0 0 => match P.underlying t with
    | some (.slice e) => some (.nil (flatT P tyD e) (P.cellsOf e))
    | _ => none
  | .agg cs => match zeroT P tyD t with
    | some zs => if zerosOk zs cs.toList then some (.agg zs) else none
    | none => none
  | .tuple vs => if vs.isEmpty then some .skp else none
  | .pointer none => some .undef
  | .nilFunc => some .undef
  | _ => none
def cX (P : Program) (t : TypeId) : Operand → Option X
  | .tmp n => some (.t n)
  | .const v => (cV P t v).map .k
  | .func f => some (.k (.fn f []))
  | .global _ => none
def cXs (P : Program) : List (Operand × TypeId) → Option (List X)
  | [] => some []
  | (x, t) :: r => match cX P t x, cXs P r with
    | some a, some b => some (a :: b)
    | _, _ => none
def cO (P : Program) : Option Operand → Option (Option X)
  | none => some none
  | some x => (cX P 0 x).map some

/-- A type whose '==' goes cell by cell: the cells' kinds. -/
def eqFieldsK (P : Program) (rec : TypeId → Option (List K3)) : Nat → List Field → Option (List K3)
  | _, [] => some []
  | off, f :: r => if f.offset = off ∧ f.name ≠ "_" then match rec f.type, P.info? f.type, aggT P f.type with
      | some ks, some i, some ag => if ks.length = i.size ∧ (ag = true ∨ i.size = 1) ∧ 0 < i.size then match eqFieldsK P rec (off + i.size) r with
          | some l => some (ks ++ l)
          | none => none
        else none
      | _, _, _ => none
    else none
def eqKinds (P : Program) : Nat → TypeId → Option (List K3)
  | 0, _ => none
  | d + 1, t => match P.underlying t with
    | some .bool => some [.b]
    | some (.int _) => some [.i]
    | some .string => some [.s]
    | some (.struct fs) => if P.stoodInHeld t then none else eqFieldsK P (eqKinds P d) 0 fs.toList
    | _ => none
def eqFlat (P : Program) (t : TypeId) : Option (Bool × List K3) := match P.underlying t with
  | some .bool => some (false, [.b])
  | some (.struct _) => if P.eqGuardType P.depth t then none else (eqKinds P 12 t).map fun ks => (true, ks)
  | _ => none
def resFlat (P : Program) (t : TypeId) : Bool := match P.underlying t with
  | some (.tuple ts) => ts.toList.all fun t => flatT P tyD t
  | _ => flatT P tyD t

def cI (P : Program) (o : Oper) : Option I := match o.op with
  | .move x => (cX P o.type x).map .mv
  | .assign x => match cX P o.type x with
    | some (.k (.nil fl sz)) => some (.nil0 fl sz)
    | some y => some (.mv y)
    | none => none
  | .pick c a b => match cX P 0 c, cX P o.type a, cX P o.type b with
    | some c, some a, some b => some (.pick c a b)
    | _, _, _ => none
  | .alloc e => match zeroOf P e, aggT P e with
    | some cs, some _ => some (.alloc cs)
    | _, _ => none
  | .box e x => (cX P e x).map .box
  | .build t parts => match zeroOf P t, P.underlying t with
    | some zero, some (.struct fs) => if !(fs.all fun f => (P.info? f.type).isSome) then none else match parts.toList.foldr (fun p acc => match fs[p.1]?, acc with
        | some f, some l => match cX P f.type p.2, P.info? f.type with | some x, some i => some ((f.offset, i.size, x) :: l) | _, _ => none
        | _, _ => none) (some []) with
      | some l => some (.build zero l)
      | none => none
    | _, _ => none
  | .buildSlice t len parts => match P.underlying t with
    | some (.slice e) => match zeroOf P e with
      | some zero => match parts.toList.foldr (fun p acc => match cX P e p.2, acc with | some x, some l => some ((p.1, x) :: l) | _, _ => none) (some []) with
        | some l => if 0 < zero.length ∧ len * zero.length ≤ 16777216 then some (.bslice (flatT P tyD e) zero.length zero len l) else none
        | none => none
      | none => none
    | _ => none
  | .load t a => match cX P 0 a, aggT P t, P.info? t with
    | some x, some ag, some i => if 0 < i.size ∧ (ag = true ∨ i.size = 1) then some (.load i.size ag x) else none
    | _, _, _ => none
  | .store t a x => match cX P 0 a, cX P t x, P.info? t with
    | some a, some x, some i => if 0 < i.size then some (.store i.size a x) else none
    | _, _, _ => none
  | .nilCheck x => (cX P 0 x).map .nilck
  | .binOp op xt x y yt => match op with
    | .eql | .neq => match P.underlying xt with
      | some (.int _) | some .string => match cX P xt x, cX P yt y with
        | some x, some y => some (.bin op x y)
        | _, _ => none
      | _ => match eqFlat P xt, cX P xt x, cX P yt y with
          | some ks, some x, some y => some (.eqv (match op with | .neq => true | _ => false) ks.1 ks.2 x y)
          | _, _, _ => none
    | op => match cX P xt x, cX P yt y with
      | some x, some y => some (.bin op x y)
      | _, _ => none
  | .unOp .not t x => (cX P t x).map .not
  | .unOp .neg t x => (cX P t x).map .neg
  | .convert src dst x => match P.underlying src, P.underlying dst, cX P src x with
    | some (.int _), some (.int k), some x => some (.conv k x)
    | some .string, some .string, some x => some (.strid x)
    | some .string, some (.slice e), some x => match P.underlying e with
      | some (.int .u8) => if P.cellsOf e = 1 then some (.s2b x) else none
      | _ => none
    | some (.slice e), some .string, some x => match P.underlying e with
      | some (.int .u8) => some (.b2s x)
      | _ => none
    | _, _, _ => none
  | .makeFunc (.func f) first captured => if first.isEmpty then match cXs P (captured.toList.map fun x => (x, 0)) with
      | some cs => some (.mkf f cs)
      | none => none
    else none
  | .makeSlice t len cap => match P.underlying t with
    | some (.slice e) => match zeroOf P e, P.info? e, cX P 0 len, cX P 0 cap with
      | some zero, some i, some l, some c => if 0 < zero.length then some (.mksl (flatT P tyD e) zero.length i.bytes zero l c) else none
      | _, _, _, _ => none
    | _ => none
  | .slice t x lo hi none => match P.underlying t, cX P t x, cO P lo, cO P hi with
    | some .string, some x, some lo, some hi => some (.scut x lo hi)
    | some (.slice e), some x, some lo, some hi => match P.info? e with
      | some i => some (.cut i.size x lo hi)
      | none => none
    | _, _, _, _ => none
  | .fieldAddr s x f => match P.underlying s, cX P 0 x with
    | some (.struct fs), some x => match fs[f]? with
      | some fd => match P.info? fd.type with
        | some i => if 0 < i.size then some (.faddr fd.offset x) else none
        | none => none
      | none => none
    | _, _ => none
  | .field s x f => match P.underlying s, cX P s x with
    | some (.struct fs), some x => match fs[f]? with
      | some fd => match P.info? fd.type, aggT P fd.type with
        | some i, some ag => if ag = true ∨ i.size = 1 then some (.field fd.offset i.size ag x) else none
        | _, _ => none
      | none => none
    | _, _ => none
  | .indexAddr t x i => match P.underlying t, cX P t x, cX P 0 i with
    | some (.slice e), some x, some i => match P.info? e with
      | some inf => if 0 < inf.size then some (.iaddr inf.size x i) else none
      | none => none
    | _, _, _ => none
  | .index t x i => match P.underlying t, cX P t x, cX P 0 i with
    | some .string, some x, some i => some (.idx x i)
    | _, _, _ => none
  | .extract x i => (cX P 0 x).map (.ext · i)
  | .call c => match c.callee with
    | .value (.func f) => match cXs P (c.args.toList.zip c.argTypes.toList) with
      | some xs => if c.args.size = c.argTypes.size then some (.call f xs (resFlat P o.type)) else none
      | none => none
    | .value (.tmp t) => match cXs P (c.args.toList.zip c.argTypes.toList) with
      | some xs => if c.args.size = c.argTypes.size then some (.callv (.t t) xs (resFlat P o.type)) else none
      | none => none
    | .builtin .len => match c.args.toList, c.argTypes.toList with
      | [x], [t] => match P.underlying t, cX P t x with
        | some .string, some x => some (.len true x)
        | some (.slice _), some x => some (.len false x)
        | _, _ => none
      | _, _ => none
    | .builtin .append => match c.args.toList, c.argTypes.toList with
      | [s, x], [t, u] => match P.underlying t, P.underlying u, cX P t s, cX P u x with
        | some (.slice e), some (.slice _), some s, some x => match P.info? e, zeroOf P e with
          | some i, some _ => if 0 < i.size ∧ i.bytes < 1000000 then some (.app (flatT P tyD e) i.size i.bytes s x) else none
          | _, _ => none
        | _, _, _, _ => none
      | _, _ => none
    | .builtin .max => match c.args.toList, c.argTypes.toList with
      | [x, y], [t, u] => match cX P t x, cX P u y with
        | some x, some y => some (.max x y)
        | _, _ => none
      | _, _ => none
    | .builtin .min => match c.args.toList, c.argTypes.toList with
      | [x, y], [t, u] => match cX P t x, cX P u y with
        | some x, some y => some (.min x y)
        | _, _ => none
      | _, _ => none
    | _ => none
  | _ => none

/-- One operation of the text, i its place. -/
def cOp (P : Program) (ops : Array Oper) (rid i : Nat) (o : Oper) : Option IOp := match cI P o with
  | some op => some { dst := o.dst, op, g := o.guard.map fun g => ((ops[g.1]?).bind (·.dst), g.2), base := (rid * 256 + i) * 256, ix := i, apart := [] }
  | none => none
def cOps (P : Program) (ops : Array Oper) (rid : Nat) : Nat → List Oper → Option (List IOp)
  | _, [] => some []
  | i, o :: r => match cOp P ops rid i o, cOps P ops rid (i + 1) r with
    | some op, some rest => some (op :: rest)
    | _, _ => none

/-- Memory: reads it, writes it, makes some. -/
structure Mem where
  t : Bool
  w : Bool
  k : Bool
  v : Bool
def memOf (md : Nat → Mode) : I → Mem
  | .load .. | .b2s _ | .cut .. | .iaddr .. | .len false _ | .nilck _ | .faddr .. => ⟨true, false, false, false⟩
  | .store .. | .app .. => ⟨true, true, true, false⟩
  | .callv .. => ⟨true, true, true, true⟩
  | .bslice .. => ⟨false, false, true, false⟩
  | .alloc _ | .box _ | .nil0 .. | .s2b _ | .mksl .. => ⟨false, false, true, false⟩
  | .call f _ fl => match md f with
    | .ref => ⟨true, true, true, true⟩
    | .view => ⟨true, false, false, true⟩
    | .val => ⟨true, false, !fl, false⟩
  | _ => ⟨false, false, false, false⟩
/-- Looks at no memory, changes none, makes none. -/
def Mem.pure (x : Mem) : Bool := !x.t && !x.w && !x.k && !x.v
/-- x is done ahead of y: may they change places? -/
def Mem.free (x y : Mem) : Bool := !x.w && !y.w && !(x.k && y.t) && !(x.v && y.k)
def xTmp : X → List Nat
  | .t n => [n]
  | .k _ => []
def oTmp : Option X → List Nat
  | none => []
  | some x => xTmp x
def I.reads : I → List Nat
  | .mv x | .box x | .load _ _ x | .nilck x | .not x | .neg x | .conv _ x | .strid x | .s2b x | .b2s x | .faddr _ x | .field _ _ _ x | .ext x _ | .len _ x => xTmp x
  | .nil0 .. | .alloc _ => []
  | .pick c a b => xTmp c ++ xTmp a ++ xTmp b
  | .build _ ps => ps.flatMap fun p => xTmp p.2.2
  | .bslice _ _ _ _ ps => ps.flatMap fun p => xTmp p.2
  | .store _ a x | .bin _ a x | .eqv _ _ _ a x | .iaddr _ a x | .idx a x | .app _ _ _ a x | .max a x | .min a x => xTmp a ++ xTmp x
  | .mkf _ cs => cs.flatMap xTmp
  | .mksl _ _ _ _ a x => xTmp a ++ xTmp x
  | .cut _ x lo hi | .scut x lo hi => xTmp x ++ oTmp lo ++ oTmp hi
  | .call _ xs _ => xs.flatMap xTmp
  | .callv x xs _ => xTmp x ++ xs.flatMap xTmp
def IOp.reads (o : IOp) : List Nat := o.op.reads ++ (match o.g with | some (some t, _) => [t] | _ => []) ++ o.apart.flatMap xTmp
def IOp.indep (x y : IOp) : Bool :=
  (match x.dst with | some d => !(y.reads.contains d) && y.dst != some d | none => true) && (match y.dst with | some d => !(x.reads.contains d) | none => true)
def X.same : X → X → Bool
  | .t n, .t m => n == m
  | _, _ => false
/-- x reads at a place that one of these bears. -/
def underAny (x : IOp) (l : List X) : Bool := match readsAt x.op with
  | some a => l.any fun b => a.same b || x.apart.any fun r => r.same b
  | none => false
def isSA : I → Bool
  | .store .. | .app .. => true
  | _ => false
def isMk : I → Bool
  | .alloc _ | .box _ | .nil0 .. | .s2b _ | .mksl .. | .bslice .. => true
  | _ => false
def swapOk (md : Nat → Mode) (x y : IOp) : Bool :=
  x.indep y && (((memOf md x.op).pure && x.apart.isEmpty) || ((memOf md y.op).pure && y.apart.isEmpty)
    || ((memOf md x.op).free (memOf md y.op) && (y.apart.isEmpty || (readsAt y.op).isSome || !(memOf md x.op).k || ((readsAt x.op).isNone && y.apart.all fun b => x.apart.any fun c => b.same c)))
    || (underAny x y.apart && (match y.op with | .store .. | .app .. => true | _ => false))
    || (!(memOf md x.op).w && (readsAt x.op).isNone && underAny y x.apart)
    || (isSA x.op && underAny y x.apart)
    || (isSA x.op && isMk y.op && y.apart.all fun b => x.apart.any fun c => b.same c))
/-- What must be done ahead of an operation, directly or not: bit by bit. -/
def pre (acc : List Nat) (o : Oper) : Nat := o.after.toList.foldr (fun e s => if Region.binds .any e then s ||| (1 <<< e.on ||| acc.getD e.on 0) else s) 0
def preAll : List Oper → List Nat → List Nat
  | [], acc => acc
  | o :: r, acc => preAll r (acc ++ [pre acc o])
/-- The order l is one of those that the text allows, and any other comes to the same. -/
def drawOk (md : Nat → Mode) (b : List Nat) : List IOp → Bool
  | [] => true
  | y :: r => !(b.getD y.ix 0).testBit y.ix && (r.all fun z => y.ix != z.ix && !(b.getD y.ix 0).testBit z.ix && ((b.getD z.ix 0).testBit y.ix || swapOk md y z)) && drawOk md b r
/-- The order l holds the operations of the text, each once. -/
def coverOk (n : Nat) (b : List Nat) (l : List IOp) : Bool := l.length == n && (b.all fun x => x < 2 ^ n) && (List.range n).all fun i => l.any fun o => o.ix == i

/-- Without its hints. -/
def IOp.bare (o : IOp) : IOp := { o with apart := [] }

/-- Each operation is the text's at its place. -/
def cIxs (P : Program) (ops : Array Oper) (rid : Nat) (l : List IOp) : Prop := l.map (fun o => (ops[o.ix]?).bind (cOp P ops rid o.ix)) = l.map fun o => some o.bare

inductive Same (P : Program) (md : Nat → Mode) : Code → C → Prop
  | skip : Same P md .skip .skip
  | plain {id : Nat} {ops : Array Oper} {l : List IOp} (h : cOps P ops id 0 ops.toList = some (l.map IOp.bare)) : Same P md (.region id ops false) (.reg l)
  | draw {id : Nat} {ops : Array Oper} {l : List IOp} {b : List Nat} (h : cIxs P ops id l) (hb : preAll ops.toList [] = b) (hd : drawOk md b l = true) (hc : coverOk ops.size b l = true) : Same P md (.region id ops true) (.reg l)
  | seq {a b : Code} {x y : C} : Same P md a x → Same P md b y → Same P md (.seq a b) (.seq x y)
  | cond {c : Operand} {x : X} {a b : Code} {p q : C} : cX P 0 c = some x → Same P md a p → Same P md b q → Same P md (.cond c a b) (.cond x p q)
  | block {id : Nat} {a : Code} {x : C} : Same P md a x → Same P md (.block id a) (.block id x)
  | loop {kt ks : List Nat} {a : Code} {x : C} : Same P md a x → Same P md (.loop a) (.loop kt ks x)
  | exit {id : Nat} : Same P md (.exit id) (.exit id)
  | ifnil {id : Nat} {ops : Array Oper} {l : List IOp} {o : Oper} {t : Tmp} {op : BinOp} {tx ty e : TypeId} {x : Operand} {xx : X} {a b : Code} {p q : C} (hlast : ops.toList.getLast? = some o) (h : cOps P ops id 0 ops.toList.dropLast = some (l.map IOp.bare))
      (ho : o.op = .binOp op tx x (.const (.slice none 0 0)) ty) {neg : Bool} (hop : op = .eql ∧ neg = false ∨ op = .neq ∧ neg = true) (hx : cX P tx x = some xx) (hu : P.underlying tx = some (.slice e)) (hd : o.dst = some t) (hg : o.guard = none) : Same P md a p → Same P md b q →
      Same P md (.seq (.region id ops false) (.cond (.tmp t) a b)) (.seq (.reg l) (.ifnil neg t xx p q))
  | ret : Same P md .ret .ret

def cR (P : Program) : List ResultVar → Option (List RV)
  | [] => some []
  | r :: rs => match (match r with
      | .tmp t => some (RV.t t)
      | .cell a t => match P.info? t, aggT P t with
        | some i, some ag => if 0 < i.size ∧ (ag = true ∨ i.size = 1) then some (RV.cell a i.size ag) else none
        | _, _ => none), cR P rs with
    | some x, some xs => some (x :: xs)
    | _, _ => none

/-- The evaluator's function is the program's. -/
structure FOk (P : Program) (md : Nat → Mode) (fn : Func) (F : F) : Prop where
  body : ∃ c, fn.body = some c ∧ Same P md c F.body
  res : cR P fn.results.toList = some F.res
  tmps : fn.ntmps = F.ntmps
  small : F.np ≤ F.ntmps
end Go.Ae
