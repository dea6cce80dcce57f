/- The log of a placement group, and the order of texts: what the program's functions answer, as plain functions. -/
import Derived.Test.YtiabjkihebhfkaaGreatAeL6
namespace Go.Ae.GA
open Go.RowKit
set_option linter.unusedVariables false
set_option linter.unusedSimpArgs false
abbrev N := List UInt8
structure Ent where
  ve : Int
  vs : Int
  pe : Int
  ps : Int
  name : ByteArray
  gone : Bool
  size : Int
  sum : Int
  rc : Int
  rn : Int
def inB (n a b : Int) : Bool := decide (a ≤ n) && decide (n ≤ b)
def verB (e s : Int) : Bool := (e == 0 && s == 0) || (inB e 1 60 && inB s 1 1000)
def lessB (a b c d : Int) : Bool := decide (a < c) || (a == c && decide (b < d))
def goodC (c : UInt8) : Bool := (decide (97 ≤ c.toNat) && decide (c.toNat ≤ 122)) || (decide (48 ≤ c.toNat) && decide (c.toNat ≤ 57))
def nameB (s : ByteArray) : Bool := inB s.size 1 8 && s.data.toList.all goodC
def cliB (n : Int) : Bool := inB n 100 105
def reqB (c n : Int) : Bool := (c == 0 && n == 0) || (cliB c && inB n 1 1000)
def sumB (n : Int) : Bool := inB n 0 4294967295
def sizeB (a b : Int) : Bool := inB a 0 64 && sumB b
def entB (e : Ent) : Bool := verB e.ve e.vs && (verB e.pe e.ps && (lessB e.pe e.ps e.ve e.vs && (nameB e.name && (reqB e.rc e.rn && (sizeB e.size e.sum && !(e.gone && (e.size != 0 || e.sum != 0)))))))
/-- Names as a set: a name put in, a name struck out. -/
def addN (ns : List N) (x : N) : List N := if ns.contains x then ns else ns ++ [x]
def delN (ns : List N) (x : N) : List N := ns.filter fun y => y != x
def stepN (ns : List N) (e : Ent) : List N := if e.gone then delN ns e.name.data.toList else addN ns e.name.data.toList
/-- The entries one behind the other. -/
def logR : Int → Int → List N → List Ent → Bool
  | _, _, _, [] => true
  | pe, ps, ns, e :: r => entB e && (decide (e.pe = pe ∧ e.ps = ps) && (decide ((stepN ns e).length ≤ 16) && logR e.ve e.vs (stepN ns e) r))
def logB (te ts : Int) (base : List ByteArray) (log : List Ent) : Bool := logR te ts ((base.map (·.data.toList)).foldl addN []) log && decide (log.length ≤ 24)
def headsOf : List (List AV) → Option (List ByteArray)
  | [] => some []
  | [.str s, .int .i64 _, .int .i64 _, .int .i64 _, .int .i64 _] :: r => match headsOf r with | some l => some (s :: l) | none => none
  | _ => none
def entOf : List AV → Option Ent
  | [.int .i64 a, .int .i64 b, .int .i64 c, .int .i64 d, .str s, .bool g, .int .i64 e, .int .i64 f, .int .i64 h, .int .i64 i] => some ⟨a, b, c, d, s, g, e, f, h, i⟩
  | _ => none
def entsOf : List (List AV) → Option (List Ent)
  | [] => some []
  | x :: r => match entOf x, entsOf r with | some e, some l => some (e :: l) | _, _ => none
def natLogOk : List AV → Option (AV × List Blk)
  | [.agg [.int .i64 _, .int .i64 _, .int .i64 _, .int .i64 _, .int .i64 te, .int .i64 ts, .rd _ xs, _, .rd _ ys, _, _, _]] => match headsOf xs, entsOf ys with
    | some hs, some es => if (∀ s ∈ hs, s.size ≤ 1048576) ∧ (∀ e ∈ es, e.name.size ≤ 1048576) ∧ hs.length ≤ 1048576 ∧ es.length ≤ 1048576 then some (.bool (logB te ts hs es), []) else none
    | _, _ => none
  | _ => none
/-- The order of texts. -/
def cmpN (a b : ByteArray) : Int := if a.data.toList = b.data.toList then 0 else if Op.bytesLess a.data.toList b.data.toList then -1 else 1
def natCmp : List AV → Option (AV × List Blk)
  | [.str a, .str b] => some (.int .i64 (cmpN a b), [])
  | _ => none
end Go.Ae.GA
