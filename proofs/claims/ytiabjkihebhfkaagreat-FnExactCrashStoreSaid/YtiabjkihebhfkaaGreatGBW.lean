/- The code of the functions, for the evaluator. -/
import Derived.Test.YtiabjkihebhfkaaGreatAeL6
import Derived.Test.YtiabjkihebhfkaaGreatGAN
import Derived.Test.YtiabjkihebhfkaaGreatProg
import Derived.KernelRfl
import Derived.WalkKit
import Derived.WalkSpells
import Derived.StillTactics
import Derived.RowKit3
import Derived.Lib.Hide
import Derived.Lib.Builder
import Derived.Lib.BufferMore
import Derived.Maps.OwnSet
import Derived.Shelf.Small.Strs
namespace Go.Ae.GF

def md : Nat → Mode := fun _ => .val
/-- loop.example/g00849/impl.VerLess -/
def F38 : F := ⟨2, 9, [.t 4],
 .seq (.reg [⟨(some 2), .box (.t 0), none, 0, 0, []⟩,
   ⟨(some 3), .box (.t 1), none, 256, 1, []⟩,
   ⟨(some 4), .mv (.k (.bool false)), none, 512, 2, []⟩])
 (.seq (.reg [⟨(some 5), .load 2 true (.t 2), none, 65536, 0, []⟩,
   ⟨(some 6), .load 2 true (.t 3), none, 65792, 1, []⟩,
   ⟨(some 7), .call 111 [(.t 5), (.t 6)] true, none, 66048, 2, []⟩,
   ⟨(some 8), .bin .lss (.t 7) (.k (.int .i64 0)), none, 66304, 3, []⟩,
   ⟨(some 4), .mv (.t 8), none, 66560, 4, []⟩])
 (.ret))⟩
/-- loop.example/g00849/impl.EntryOk -/
def F105 : F := ⟨1, 50, [.t 2],
 .seq (.reg [⟨(some 1), .box (.t 0), none, 0, 0, []⟩,
   ⟨(some 2), .mv (.k (.bool false)), none, 256, 1, []⟩])
 (.seq (.reg [⟨(some 3), .faddr 0 (.t 1), none, 65536, 0, []⟩,
   ⟨(some 4), .load 2 true (.t 3), none, 65792, 1, []⟩,
   ⟨(some 5), .call 143 [(.t 4)] true, none, 66048, 2, []⟩,
   ⟨(some 6), .mv (.t 5), none, 66304, 3, []⟩,
   ⟨(some 7), .faddr 2 (.t 1), (some (some 6, true)), 66560, 4, []⟩,
   ⟨(some 8), .load 2 true (.t 7), (some (some 6, true)), 66816, 5, []⟩,
   ⟨(some 9), .call 143 [(.t 8)] true, (some (some 6, true)), 67072, 6, []⟩,
   ⟨(some 10), .pick (.t 6) (.t 9) (.k (.bool false)), none, 67328, 7, []⟩,
   ⟨(some 11), .mv (.t 10), none, 67584, 8, []⟩,
   ⟨(some 12), .faddr 2 (.t 1), (some (some 11, true)), 67840, 9, []⟩,
   ⟨(some 13), .load 2 true (.t 12), (some (some 11, true)), 68096, 10, []⟩,
   ⟨(some 14), .faddr 0 (.t 1), (some (some 11, true)), 68352, 11, []⟩,
   ⟨(some 15), .load 2 true (.t 14), (some (some 11, true)), 68608, 12, []⟩,
   ⟨(some 16), .call 38 [(.t 13), (.t 15)] true, (some (some 11, true)), 68864, 13, []⟩,
   ⟨(some 17), .pick (.t 11) (.t 16) (.k (.bool false)), none, 69120, 14, []⟩,
   ⟨(some 18), .mv (.t 17), none, 69376, 15, []⟩,
   ⟨(some 19), .faddr 4 (.t 1), (some (some 18, true)), 69632, 16, []⟩,
   ⟨(some 20), .load 1 false (.t 19), (some (some 18, true)), 69888, 17, []⟩,
   ⟨(some 21), .call 161 [(.t 20)] true, (some (some 18, true)), 70144, 18, []⟩,
   ⟨(some 22), .pick (.t 18) (.t 21) (.k (.bool false)), none, 70400, 19, []⟩,
   ⟨(some 23), .mv (.t 22), none, 70656, 20, []⟩,
   ⟨(some 24), .faddr 8 (.t 1), (some (some 23, true)), 70912, 21, []⟩,
   ⟨(some 25), .load 2 true (.t 24), (some (some 23, true)), 71168, 22, []⟩,
   ⟨(some 26), .call 176 [(.t 25)] true, (some (some 23, true)), 71424, 23, []⟩,
   ⟨(some 27), .pick (.t 23) (.t 26) (.k (.bool false)), none, 71680, 24, []⟩,
   ⟨(some 28), .mv (.t 27), none, 71936, 25, []⟩,
   ⟨(some 29), .faddr 6 (.t 1), (some (some 28, true)), 72192, 26, []⟩,
   ⟨(some 30), .load 1 false (.t 29), (some (some 28, true)), 72448, 27, []⟩,
   ⟨(some 31), .faddr 7 (.t 1), (some (some 28, true)), 72704, 28, []⟩,
   ⟨(some 32), .load 1 false (.t 31), (some (some 28, true)), 72960, 29, []⟩,
   ⟨(some 33), .call 177 [(.t 30), (.t 32)] true, (some (some 28, true)), 73216, 30, []⟩,
   ⟨(some 34), .pick (.t 28) (.t 33) (.k (.bool false)), none, 73472, 31, []⟩,
   ⟨(some 35), .mv (.t 34), none, 73728, 32, []⟩,
   ⟨(some 36), .faddr 5 (.t 1), (some (some 35, true)), 73984, 33, []⟩,
   ⟨(some 37), .load 1 false (.t 36), (some (some 35, true)), 74240, 34, []⟩,
   ⟨(some 38), .mv (.t 37), (some (some 35, true)), 74496, 35, []⟩,
   ⟨(some 39), .faddr 6 (.t 1), (some (some 38, true)), 74752, 36, []⟩,
   ⟨(some 40), .load 1 false (.t 39), (some (some 38, true)), 75008, 37, []⟩,
   ⟨(some 41), .bin .neq (.t 40) (.k (.int .i64 0)), (some (some 38, true)), 75264, 38, []⟩,
   ⟨(some 42), .mv (.t 41), (some (some 38, true)), 75520, 39, []⟩,
   ⟨(some 43), .faddr 7 (.t 1), (some (some 42, false)), 75776, 40, []⟩,
   ⟨(some 44), .load 1 false (.t 43), (some (some 42, false)), 76032, 41, []⟩,
   ⟨(some 45), .bin .neq (.t 44) (.k (.int .i64 0)), (some (some 42, false)), 76288, 42, []⟩,
   ⟨(some 46), .pick (.t 42) (.k (.bool true)) (.t 45), (some (some 38, true)), 76544, 43, []⟩,
   ⟨(some 47), .pick (.t 38) (.t 46) (.k (.bool false)), (some (some 35, true)), 76800, 44, []⟩,
   ⟨(some 48), .not (.t 47), (some (some 35, true)), 77056, 45, []⟩,
   ⟨(some 49), .pick (.t 35) (.t 48) (.k (.bool false)), none, 77312, 46, []⟩,
   ⟨(some 2), .mv (.t 49), none, 77568, 47, []⟩])
 (.ret))⟩
/-- loop.example/g00849/impl.compareVers -/
def F111 : F := ⟨2, 17, [.t 4],
 .seq (.reg [⟨(some 2), .box (.t 0), none, 0, 0, []⟩,
   ⟨(some 3), .box (.t 1), none, 256, 1, []⟩,
   ⟨(some 4), .mv (.k (.int .i64 0)), none, 512, 2, []⟩])
 (.seq (.reg [⟨(some 5), .faddr 0 (.t 2), none, 65536, 0, []⟩,
   ⟨(some 6), .load 1 false (.t 5), none, 65792, 1, []⟩,
   ⟨(some 7), .faddr 0 (.t 3), none, 66048, 2, []⟩,
   ⟨(some 8), .load 1 false (.t 7), none, 66304, 3, []⟩,
   ⟨(some 9), .call 185 [(.t 6), (.t 8)] true, none, 66560, 4, []⟩,
   ⟨(some 10), .faddr 1 (.t 2), none, 66816, 5, []⟩,
   ⟨(some 11), .load 1 false (.t 10), none, 67072, 6, []⟩,
   ⟨(some 12), .faddr 1 (.t 3), none, 67328, 7, []⟩,
   ⟨(some 13), .load 1 false (.t 12), none, 67584, 8, []⟩,
   ⟨(some 14), .call 185 [(.t 11), (.t 13)] true, none, 67840, 9, []⟩,
   ⟨(some 15), .bslice true 1 [(.int .i64 0)] 2 [(0, (.t 9)), (1, (.t 14))], none, 68096, 10, []⟩,
   ⟨(some 16), .call 188 [(.t 15)] true, none, 68352, 11, []⟩,
   ⟨(some 4), .mv (.t 16), none, 68608, 12, []⟩])
 (.ret))⟩
/-- loop.example/g00849/impl.between -/
def F142 : F := ⟨3, 15, [.t 6],
 .seq (.reg [⟨(some 6), .mv (.k (.bool false)), none, 0, 0, []⟩])
 (.seq (.reg [⟨(some 7), .mv (.t 0), none, 65536, 0, []⟩,
   ⟨(some 8), .mv (.t 1), none, 65792, 1, []⟩,
   ⟨(some 9), .bin .geq (.t 7) (.t 8), none, 66048, 2, []⟩,
   ⟨(some 10), .mv (.t 9), none, 66304, 3, []⟩,
   ⟨(some 11), .mv (.t 0), (some (some 10, true)), 66560, 4, []⟩,
   ⟨(some 12), .mv (.t 2), (some (some 10, true)), 66816, 5, []⟩,
   ⟨(some 13), .bin .leq (.t 11) (.t 12), (some (some 10, true)), 67072, 6, []⟩,
   ⟨(some 14), .pick (.t 10) (.t 13) (.k (.bool false)), none, 67328, 7, []⟩,
   ⟨(some 6), .mv (.t 14), none, 67584, 8, []⟩])
 (.ret))⟩
/-- loop.example/g00849/impl.verOk -/
def F143 : F := ⟨1, 16, [.t 2],
 .seq (.reg [⟨(some 1), .box (.t 0), none, 0, 0, []⟩,
   ⟨(some 2), .mv (.k (.bool false)), none, 256, 1, []⟩])
 (.seq (.reg [⟨(some 3), .load 2 true (.t 1), none, 65536, 0, []⟩,
   ⟨(some 4), .build [(.int .i64 0), (.int .i64 0)] [], none, 65792, 1, []⟩,
   ⟨(some 5), .eqv false true [.i, .i] (.t 3) (.t 4), none, 66048, 2, []⟩,
   ⟨(some 6), .mv (.t 5), none, 66304, 3, []⟩,
   ⟨(some 7), .faddr 0 (.t 1), (some (some 6, false)), 66560, 4, []⟩,
   ⟨(some 8), .load 1 false (.t 7), (some (some 6, false)), 66816, 5, []⟩,
   ⟨(some 9), .call 142 [(.t 8), (.k (.int .i64 1)), (.k (.int .i64 60))] true, (some (some 6, false)), 67072, 6, []⟩,
   ⟨(some 10), .mv (.t 9), (some (some 6, false)), 67328, 7, []⟩,
   ⟨(some 11), .faddr 1 (.t 1), (some (some 10, true)), 67584, 8, []⟩,
   ⟨(some 12), .load 1 false (.t 11), (some (some 10, true)), 67840, 9, []⟩,
   ⟨(some 13), .call 142 [(.t 12), (.k (.int .i64 1)), (.k (.int .i64 1000))] true, (some (some 10, true)), 68096, 10, []⟩,
   ⟨(some 14), .pick (.t 10) (.t 13) (.k (.bool false)), (some (some 6, false)), 68352, 11, []⟩,
   ⟨(some 15), .pick (.t 6) (.k (.bool true)) (.t 14), none, 68608, 12, []⟩,
   ⟨(some 2), .mv (.t 15), none, 68864, 13, []⟩])
 (.ret))⟩
/-- loop.example/g00849/impl.NameOk -/
def F161 : F := ⟨1, 31, [.t 2],
 .seq (.reg [⟨(some 2), .mv (.k (.bool false)), none, 0, 0, []⟩])
 (.seq (.seq (.reg [⟨(some 5), .mv (.t 0), none, 65536, 0, []⟩,
   ⟨(some 6), .len true (.t 5), none, 65792, 1, []⟩,
   ⟨(some 7), .mv (.k (.int .i64 0)), none, 66048, 2, []⟩])
 (.block 0 (.loop [0, 6, 7] []
  (.seq (.reg [⟨(some 8), .bin .lss (.t 7) (.t 6), none, 131072, 0, []⟩])
  (.seq (.cond (.t 8)
   (.skip)
   (.exit 0))
  (.seq (.block 1 (.seq (.reg [⟨(some 9), .mv (.t 7), none, 196608, 0, []⟩,
    ⟨(some 3), .mv (.t 9), none, 196864, 1, []⟩])
  (.seq (.reg [⟨(some 10), .mv (.t 0), none, 262144, 0, []⟩,
    ⟨(some 11), .mv (.t 3), none, 262400, 1, []⟩,
    ⟨(some 12), .idx (.t 10) (.t 11), none, 262656, 2, []⟩,
    ⟨(some 4), .mv (.t 12), none, 262912, 3, []⟩])
  (.seq (.reg [⟨(some 13), .mv (.t 4), none, 327680, 0, []⟩,
    ⟨(some 14), .bin .lss (.t 13) (.k (.int .u8 97)), none, 327936, 1, []⟩,
    ⟨(some 15), .mv (.t 14), none, 328192, 2, []⟩,
    ⟨(some 16), .mv (.t 4), (some (some 15, false)), 328448, 3, []⟩,
    ⟨(some 17), .bin .gtr (.t 16) (.k (.int .u8 122)), (some (some 15, false)), 328704, 4, []⟩,
    ⟨(some 18), .pick (.t 15) (.k (.bool true)) (.t 17), none, 328960, 5, []⟩,
    ⟨(some 19), .mv (.t 18), none, 329216, 6, []⟩,
    ⟨(some 20), .mv (.t 4), (some (some 19, true)), 329472, 7, []⟩,
    ⟨(some 21), .bin .lss (.t 20) (.k (.int .u8 48)), (some (some 19, true)), 329728, 8, []⟩,
    ⟨(some 22), .mv (.t 21), (some (some 19, true)), 329984, 9, []⟩,
    ⟨(some 23), .mv (.t 4), (some (some 22, false)), 330240, 10, []⟩,
    ⟨(some 24), .bin .gtr (.t 23) (.k (.int .u8 57)), (some (some 22, false)), 330496, 11, []⟩,
    ⟨(some 25), .pick (.t 22) (.k (.bool true)) (.t 24), (some (some 19, true)), 330752, 12, []⟩,
    ⟨(some 26), .pick (.t 19) (.t 25) (.k (.bool false)), none, 331008, 13, []⟩])
  (.cond (.t 26)
   (.seq (.reg [⟨(some 2), .mv (.k (.bool false)), none, 393216, 0, []⟩])
   (.ret))
   (.skip))))))
  (.reg [⟨(some 27), .bin .add (.t 7) (.k (.int .i64 1)), none, 458752, 0, []⟩,
    ⟨(some 7), .mv (.t 27), none, 459008, 1, []⟩])))))))
 (.seq (.reg [⟨(some 28), .mv (.t 0), none, 524288, 0, []⟩,
   ⟨(some 29), .len true (.t 28), none, 524544, 1, []⟩,
   ⟨(some 30), .call 142 [(.t 29), (.k (.int .i64 1)), (.k (.int .i64 8))] true, none, 524800, 2, []⟩,
   ⟨(some 2), .mv (.t 30), none, 525056, 3, []⟩])
 (.ret)))⟩
/-- loop.example/g00849/impl.reqOk -/
def F176 : F := ⟨1, 16, [.t 2],
 .seq (.reg [⟨(some 1), .box (.t 0), none, 0, 0, []⟩,
   ⟨(some 2), .mv (.k (.bool false)), none, 256, 1, []⟩])
 (.seq (.reg [⟨(some 3), .load 2 true (.t 1), none, 65536, 0, []⟩,
   ⟨(some 4), .build [(.int .i64 0), (.int .i64 0)] [], none, 65792, 1, []⟩,
   ⟨(some 5), .eqv false true [.i, .i] (.t 3) (.t 4), none, 66048, 2, []⟩,
   ⟨(some 6), .mv (.t 5), none, 66304, 3, []⟩,
   ⟨(some 7), .faddr 0 (.t 1), (some (some 6, false)), 66560, 4, []⟩,
   ⟨(some 8), .load 1 false (.t 7), (some (some 6, false)), 66816, 5, []⟩,
   ⟨(some 9), .call 227 [(.t 8)] true, (some (some 6, false)), 67072, 6, []⟩,
   ⟨(some 10), .mv (.t 9), (some (some 6, false)), 67328, 7, []⟩,
   ⟨(some 11), .faddr 1 (.t 1), (some (some 10, true)), 67584, 8, []⟩,
   ⟨(some 12), .load 1 false (.t 11), (some (some 10, true)), 67840, 9, []⟩,
   ⟨(some 13), .call 142 [(.t 12), (.k (.int .i64 1)), (.k (.int .i64 1000))] true, (some (some 10, true)), 68096, 10, []⟩,
   ⟨(some 14), .pick (.t 10) (.t 13) (.k (.bool false)), (some (some 6, false)), 68352, 11, []⟩,
   ⟨(some 15), .pick (.t 6) (.k (.bool true)) (.t 14), none, 68608, 12, []⟩,
   ⟨(some 2), .mv (.t 15), none, 68864, 13, []⟩])
 (.ret))⟩
/-- loop.example/g00849/impl.sizeOk -/
def F177 : F := ⟨2, 11, [.t 4],
 .seq (.reg [⟨(some 4), .mv (.k (.bool false)), none, 0, 0, []⟩])
 (.seq (.reg [⟨(some 5), .mv (.t 0), none, 65536, 0, []⟩,
   ⟨(some 6), .call 142 [(.t 5), (.k (.int .i64 0)), (.k (.int .i64 64))] true, none, 65792, 1, []⟩,
   ⟨(some 7), .mv (.t 6), none, 66048, 2, []⟩,
   ⟨(some 8), .mv (.t 1), (some (some 7, true)), 66304, 3, []⟩,
   ⟨(some 9), .call 142 [(.t 8), (.k (.int .i64 0)), (.k (.int .i64 4294967295))] true, (some (some 7, true)), 66560, 4, []⟩,
   ⟨(some 10), .pick (.t 7) (.t 9) (.k (.bool false)), none, 66816, 5, []⟩,
   ⟨(some 4), .mv (.t 10), none, 67072, 6, []⟩])
 (.ret))⟩
/-- cmp.Compare[int64] -/
def F185 : F := ⟨2, 20, [.t 4],
 .seq (.reg [⟨(some 4), .mv (.k (.int .i64 0)), none, 0, 0, []⟩])
 (.seq (.reg [⟨(some 7), .mv (.t 0), none, 65536, 0, []⟩,
   ⟨(some 8), .call 232 [(.t 7)] true, none, 65792, 1, []⟩,
   ⟨(some 5), .mv (.t 8), none, 66048, 2, []⟩])
 (.seq (.reg [⟨(some 9), .mv (.t 1), none, 131072, 0, []⟩,
   ⟨(some 10), .call 232 [(.t 9)] true, none, 131328, 1, []⟩,
   ⟨(some 6), .mv (.t 10), none, 131584, 2, []⟩])
 (.seq (.seq (.reg [⟨(some 11), .mv (.t 5), none, 196608, 0, []⟩])
 (.cond (.t 11)
  (.seq (.seq (.reg [⟨(some 12), .mv (.t 6), none, 262144, 0, []⟩])
  (.cond (.t 12)
   (.seq (.reg [⟨(some 4), .mv (.k (.int .i64 0)), none, 327680, 0, []⟩])
   (.ret))
   (.skip)))
  (.seq (.reg [⟨(some 4), .mv (.k (.int .i64 (-1))), none, 393216, 0, []⟩])
  (.ret)))
  (.skip)))
 (.seq (.seq (.reg [⟨(some 13), .mv (.t 6), none, 458752, 0, []⟩])
 (.cond (.t 13)
  (.seq (.reg [⟨(some 4), .mv (.k (.int .i64 1)), none, 524288, 0, []⟩])
  (.ret))
  (.skip)))
 (.seq (.seq (.reg [⟨(some 14), .mv (.t 0), none, 589824, 0, []⟩,
   ⟨(some 15), .mv (.t 1), none, 590080, 1, []⟩,
   ⟨(some 16), .bin .lss (.t 14) (.t 15), none, 590336, 2, []⟩])
 (.cond (.t 16)
  (.seq (.reg [⟨(some 4), .mv (.k (.int .i64 (-1))), none, 655360, 0, []⟩])
  (.ret))
  (.skip)))
 (.seq (.seq (.reg [⟨(some 17), .mv (.t 0), none, 720896, 0, []⟩,
   ⟨(some 18), .mv (.t 1), none, 721152, 1, []⟩,
   ⟨(some 19), .bin .gtr (.t 17) (.t 18), none, 721408, 2, []⟩])
 (.cond (.t 19)
  (.seq (.reg [⟨(some 4), .mv (.k (.int .i64 1)), none, 786432, 0, []⟩])
  (.ret))
  (.skip)))
 (.seq (.reg [⟨(some 4), .mv (.k (.int .i64 0)), none, 851968, 0, []⟩])
 (.ret))))))))⟩
/-- cmp.Or[int] -/
def F188 : F := ⟨1, 18, [.t 2],
 .seq (.reg [⟨(some 2), .mv (.k (.int .i64 0)), none, 0, 0, []⟩])
 (.seq (.reg [⟨(some 3), .mv (.k (.int .i64 0)), none, 65536, 0, []⟩])
 (.seq (.seq (.reg [⟨(some 6), .mv (.t 0), none, 131072, 0, []⟩,
   ⟨(some 7), .len false (.t 6), none, 131328, 1, []⟩,
   ⟨(some 8), .mv (.k (.int .i64 0)), none, 131584, 2, []⟩])
 (.block 0 (.loop [3, 6, 7, 8] []
  (.seq (.reg [⟨(some 9), .bin .lss (.t 8) (.t 7), none, 196608, 0, []⟩])
  (.seq (.cond (.t 9)
   (.skip)
   (.exit 0))
  (.seq (.block 1 (.seq (.reg [⟨(some 10), .iaddr 1 (.t 6) (.t 8), none, 262144, 0, []⟩,
    ⟨(some 11), .load 1 false (.t 10), none, 262400, 1, []⟩,
    ⟨(some 5), .mv (.t 11), none, 262656, 2, []⟩])
  (.seq (.reg [⟨(some 12), .mv (.t 5), none, 327680, 0, []⟩,
    ⟨(some 13), .mv (.t 3), none, 327936, 1, []⟩,
    ⟨(some 14), .bin .neq (.t 12) (.t 13), none, 328192, 2, []⟩])
  (.cond (.t 14)
   (.seq (.reg [⟨(some 15), .mv (.t 5), none, 393216, 0, []⟩,
     ⟨(some 2), .mv (.t 15), none, 393472, 1, []⟩])
   (.ret))
   (.skip)))))
  (.reg [⟨(some 16), .bin .add (.t 8) (.k (.int .i64 1)), none, 458752, 0, []⟩,
    ⟨(some 8), .mv (.t 16), none, 459008, 1, []⟩])))))))
 (.seq (.reg [⟨(some 17), .mv (.t 3), none, 524288, 0, []⟩,
   ⟨(some 2), .mv (.t 17), none, 524544, 1, []⟩])
 (.ret))))⟩
/-- loop.example/g00849/impl.isClient -/
def F227 : F := ⟨1, 5, [.t 2],
 .seq (.reg [⟨(some 2), .mv (.k (.bool false)), none, 0, 0, []⟩])
 (.seq (.reg [⟨(some 3), .mv (.t 0), none, 65536, 0, []⟩,
   ⟨(some 4), .call 142 [(.t 3), (.k (.int .i64 100)), (.k (.int .i64 105))] true, none, 65792, 1, []⟩,
   ⟨(some 2), .mv (.t 4), none, 66048, 2, []⟩])
 (.ret))⟩
/-- cmp.isNaN[int64] -/
def F232 : F := ⟨1, 6, [.t 2],
 .seq (.reg [⟨(some 2), .mv (.k (.bool false)), none, 0, 0, []⟩])
 (.seq (.reg [⟨(some 3), .mv (.t 0), none, 65536, 0, []⟩,
   ⟨(some 4), .mv (.t 0), none, 65792, 1, []⟩,
   ⟨(some 5), .bin .neq (.t 3) (.t 4), none, 66048, 2, []⟩,
   ⟨(some 2), .mv (.t 5), none, 66304, 3, []⟩])
 (.ret))⟩
def fns : Nat → Option F
  | 38 => some F38
  | 105 => some F105
  | 111 => some F111
  | 142 => some F142
  | 143 => some F143
  | 161 => some F161
  | 176 => some F176
  | 177 => some F177
  | 185 => some F185
  | 188 => some F188
  | 227 => some F227
  | 232 => some F232
  | _ => none
def natsR : Nat → Option (List AV → List Heap → Option Res) := fun _ => none
def code : Prog := ⟨fns, md, fun _ => none, natsR⟩
theorem fn38 : code.fn 38 = some F38 := rfl
theorem fn105 : code.fn 105 = some F105 := rfl
theorem fn111 : code.fn 111 = some F111 := rfl
theorem fn142 : code.fn 142 = some F142 := rfl
theorem fn143 : code.fn 143 = some F143 := rfl
theorem fn161 : code.fn 161 = some F161 := rfl
theorem fn176 : code.fn 176 = some F176 := rfl
theorem fn177 : code.fn 177 = some F177 := rfl
theorem fn185 : code.fn 185 = some F185 := rfl
theorem fn188 : code.fn 188 = some F188 := rfl
theorem fn227 : code.fn 227 = some F227 := rfl
theorem fn232 : code.fn 232 = some F232 := rfl
theorem rcall {O : Oracle} {st : St} {Q : Ex → St → Prop} {fs : List Fr} {d : Option Nat} {b i : Nat} {ap : List X} {r : List IOp} (f : Nat) (xs : List X) (fl : Bool) : RunO O code.md (⟨d, .call f xs fl, none, b, i, ap⟩ :: r) fs st Q = (quietOk st (.call f xs fl) ap = true ∧ RunQ O code.md (callVal O st b f (evalXs st xs) fl) d r fs st Q) := R_call f xs fl rfl
end Go.Ae.GF
namespace Go.Ae.GF
open Go.Ae.GA (verB lessB goodC nameB cliB reqB sumB sizeB entB)
set_option linter.unusedSimpArgs false
set_option linter.unusedVariables false
theorem between (k : Nat) (a b c : Int) : call code (k + 1) 142 [.int .i64 a, .int .i64 b, .int .i64 c] [] = some ⟨.bool (GA.inB a b c), [], []⟩ := by
  refine call_run rfl fn142 rfl ?_
  simp [F142]
  repeat' ((first | apply RunG_ncase | apply RunB_ncase | apply RunG_case | apply RunB_case | apply RunP_case) <;> intro h <;> simp [h])
  all_goals (simp_all [GA.inB] <;> omega)
theorem verOk (k : Nat) (e s : Int) : call code (k + 2) 143 [.agg [.int .i64 e, .int .i64 s]] [] = some ⟨.bool (verB e s), [], []⟩ := by
  refine call_run rfl fn143 rfl ?_
  unfold verB
  have b1 := fun k => between k e 1 60
  have b2 := fun k => between k s 1 1000
  cases c1 : e == 0 <;> cases c2 : s == 0 <;> cases c3 : GA.inB e 1 60 <;> cases c4 : GA.inB s 1 1000 <;> rw [c3] at b1 <;> rw [c4] at b2 <;> simp [F143, rcall, b1, b2, c1, c2]
theorem isClient (k : Nat) (n : Int) : call code (k + 2) 227 [.int .i64 n] [] = some ⟨.bool (cliB n), [], []⟩ := by
  refine call_run rfl fn227 rfl ?_
  simp [F227, rcall, between, cliB]
theorem reqOk (k : Nat) (c n : Int) : call code (k + 3) 176 [.agg [.int .i64 c, .int .i64 n]] [] = some ⟨.bool (reqB c n), [], []⟩ := by
  refine call_run rfl fn176 rfl ?_
  unfold reqB
  have b1 := fun k => isClient k c
  have b2 := fun k => between k n 1 1000
  cases c1 : c == 0 <;> cases c2 : n == 0 <;> cases c3 : cliB c <;> cases c4 : GA.inB n 1 1000 <;> rw [c3] at b1 <;> rw [c4] at b2 <;> simp [F176, rcall, rcall, b1, b2, c1, c2]
theorem sizeOk (k : Nat) (a b : Int) : call code (k + 2) 177 [.int .i64 a, .int .i64 b] [] = some ⟨.bool (sizeB a b), [], []⟩ := by
  refine call_run rfl fn177 rfl ?_
  unfold sizeB sumB
  have b1 := fun k => between k a 0 64
  have b2 := fun k => between k b 0 4294967295
  cases c3 : GA.inB a 0 64 <;> cases c4 : GA.inB b 0 4294967295 <;> rw [c3] at b1 <;> rw [c4] at b2 <;> simp [F177, rcall, b1, b2]
theorem implNameOk (k : Nat) (s : ByteArray) (hs : s.size ≤ 1048576) : call code (k + 2) 161 [.str s] [] = some ⟨.bool (nameB s), [], []⟩ := by
  refine call_run rfl fn161 rfl ?_
  simp [F161]
  refine RunC_loop (fun i : Nat => ⟨[.str s, .undef, .undef, .undef, .undef, .undef, .int .i64 s.size, .int .i64 i] ++ List.replicate 23 .undef, [], []⟩)
    (fun i => i ≤ s.size ∧ ∀ (j : Nat) (c : UInt8), j < i → s.data.toList[j]? = some c → goodC c = true) (fun i => s.size - i) 0 ⟨by omega, by omega⟩ (by simp; omega) (by simp) fun i hi _ => ?_
  by_cases hlt : i < s.size
  · have hc' := bget_pos hlt
    simp [hlt]
    repeat' ((first | apply RunG_ncase | apply RunB_ncase | apply RunG_case | apply RunB_case | apply RunP_case) <;> intro h <;> simp [h])
    all_goals first
      | (have hb : goodC s[i] = false := by simp_all [goodC] <;> omega
         simp [nameB, GA.inB, all_false hc' hb]; done)
      | (have hb : goodC s[i] = true := by simp_all [goodC] <;> omega
         refine ⟨i + 1, ⟨by omega, fun j c hj hjc => ?_⟩, by omega, ?_⟩
         · rcases Nat.lt_succ_iff_lt_or_eq.1 hj with h | rfl
           · exact hi.2 j c h (by simpa using hjc)
           · rw [show s.data.toList[j]? = s.data[j]? from by simp, hjc] at hc'
             cases hc'; exact hb
         · rw [wrap64 (by omega)]; omega)
      | (exfalso; simp_all; done)
  · have : i = s.size := by omega
    subst this
    have hall : s.data.toList.all goodC = true := all_iff.2 fun j c hc => hi.2 j c (by simpa using (List.getElem?_eq_some_iff.1 hc).1) hc
    simp [rcall, between, nameB, hall, GA.inB]
theorem isNaN (k : Nat) (n : Int) : call code (k + 1) 232 [.int .i64 n] [] = some ⟨.bool false, [], []⟩ := by
  refine call_run rfl fn232 rfl ?_
  simp [F232]
def cmpI (a b : Int) : Int := if a < b then -1 else if b < a then 1 else 0
theorem compare (k : Nat) (a b : Int) : call code (k + 2) 185 [.int .i64 a, .int .i64 b] [] = some ⟨.int .i64 (cmpI a b), [], []⟩ := by
  refine call_run rfl fn185 rfl ?_
  unfold cmpI
  by_cases h1 : a < b
  · simp [F185, rcall, isNaN, h1]
  · by_cases h2 : b < a
    · simp [F185, rcall, isNaN, h1, h2]
    · simp [F185, rcall, isNaN, h1, h2]
def orL : List Int → Int
  | [] => 0
  | a :: r => if a = 0 then orL r else a
theorem orL_at {L : List Int} {i : Nat} (h : i < L.length) (h0 : ∀ j, j < i → L[j]? = some 0) : orL L = if L[i] = 0 then orL (L.drop (i + 1)) else L[i] := by
  induction L generalizing i with
  | nil => simp at h
  | cons a r ih =>
    cases i with
    | zero => rfl
    | succ i =>
      have ha : a = 0 := by have := h0 0 (by omega); simpa using this
      rw [orL, if_pos ha, ih (i := i) (by simpa using h) (fun j hj => by have := h0 (j + 1) (by omega); simpa using this)]
      simp
theorem orL_zero {L : List Int} (h0 : ∀ j, j < L.length → L[j]? = some 0) : orL L = 0 := by
  induction L with
  | nil => rfl
  | cons a r ih =>
    have ha : a = 0 := by have := h0 0 (by simp); simpa using this
    rw [orL, if_pos ha, ih fun j hj => by have := h0 (j + 1) (by simpa using hj); simpa using this]
theorem orS (k : Nat) (L : List Int) (hn : L.length ≤ 1000) : call code (k + 1) 188 [.rd true (rws encI L)] [] = some ⟨.int .i64 (orL L), [], []⟩ := by
  refine call_run rfl fn188 rfl ?_
  simp [F188]
  refine RunC_loop (fun i : Nat => ⟨tm 18 [(3, .int .i64 0), (6, .rd true (rws encI L)), (7, .int .i64 L.length), (8, .int .i64 i)], [], []⟩)
    (fun i => i ≤ L.length ∧ ∀ j, j < i → L[j]? = some 0) (fun i => L.length - i) 0 ⟨by omega, by omega⟩ (by simp; omega) (by simp [tm]) fun i hi _ => ?_
  obtain ⟨hi, h0⟩ := hi
  by_cases hlt : i < L.length
  · have hs := idx_succ' hlt (by omega)
    have ho := orL_at hlt h0
    by_cases hz : L[i] = 0
    · simp [tm, hlt, hs, encI, hz]
      refine ⟨i + 1, ⟨by omega, fun j hj => ?_⟩, by omega, by simp⟩
      rcases Nat.lt_succ_iff_lt_or_eq.1 hj with h | rfl
      · exact h0 j h
      · rw [List.getElem?_eq_getElem hlt, hz]
    · rw [if_neg hz] at ho
      have hz' : (L[i] != 0) = true := by simp [bne_iff_ne, hz]
      simp [tm, hlt, encI, hz', ho]
  · have : i = L.length := by omega
    subst this
    simp [tm, orL_zero h0]
def cmpV (a b c d : Int) : Int := orL [cmpI a c, cmpI b d]
theorem compareVers (k : Nat) (a b c d : Int) : call code (k + 3) 111 [.agg [.int .i64 a, .int .i64 b], .agg [.int .i64 c, .int .i64 d]] [] = some ⟨.int .i64 (cmpV a b c d), [], []⟩ := by
  refine call_run rfl fn111 rfl ?_
  have o := fun k => orS k [cmpI a c, cmpI b d] (by simp)
  simp only [rws, List.map, encI] at o
  simp [F111, rcall, compare, rcall, o, cmpV]
theorem cmpV_neg (a b c d : Int) : decide (cmpV a b c d < 0) = lessB a b c d := by
  unfold cmpV lessB orL orL orL cmpI
  by_cases h1 : a < c
  · simp [h1]
  · by_cases h2 : c < a
    · have : ¬ a = c := by omega
      simp [h1, h2, this]
    · have : a = c := by omega
      subst this
      by_cases h3 : b < d
      · simp [h3]
      · by_cases h4 : d < b <;> simp [h3, h4]
theorem verLess (k : Nat) (a b c d : Int) : call code (k + 4) 38 [.agg [.int .i64 a, .int .i64 b], .agg [.int .i64 c, .int .i64 d]] [] = some ⟨.bool (lessB a b c d), [], []⟩ := by
  refine call_run rfl fn38 rfl ?_
  have h := cmpV_neg a b c d
  simp [F38, rcall, compareVers, h]
set_option maxHeartbeats 4000000 in
theorem entryOk (k : Nat) (ve vs pe ps : Int) (nm : ByteArray) (g : Bool) (sz sm rc rn : Int) (hs : nm.size ≤ 1048576) : call code (k + 5) 105 [.agg [.int .i64 ve, .int .i64 vs, .int .i64 pe, .int .i64 ps, .str nm, .bool g, .int .i64 sz, .int .i64 sm, .int .i64 rc, .int .i64 rn]] [] = some ⟨.bool (entB ⟨ve, vs, pe, ps, nm, g, sz, sm, rc, rn⟩), [], []⟩ := by
  refine call_run rfl fn105 rfl ?_
  unfold entB
  have h1 := fun k => verOk k ve vs
  have h2 := fun k => verOk k pe ps
  have h3 := fun k => verLess k pe ps ve vs
  have h4 := fun k => implNameOk k nm hs
  have h5 := fun k => reqOk k rc rn
  have h6 := fun k => sizeOk k sz sm
  cases c0 : verB ve vs
  · rw [c0] at h1
    simp [F105, rcall, rcall, rcall, rcall, rcall, h1]
  rw [c0] at h1
  cases c1 : verB pe ps
  · rw [c1] at h2
    simp [F105, rcall, rcall, rcall, rcall, rcall, h1, h2]
  rw [c1] at h2
  cases c2 : lessB pe ps ve vs
  · rw [c2] at h3
    simp [F105, rcall, rcall, rcall, rcall, rcall, h1, h2, h3]
  rw [c2] at h3
  cases c3 : nameB nm
  · rw [c3] at h4
    simp [F105, rcall, rcall, rcall, rcall, rcall, h1, h2, h3, h4]
  rw [c3] at h4
  cases c4 : reqB rc rn
  · rw [c4] at h5
    simp [F105, rcall, rcall, rcall, rcall, rcall, h1, h2, h3, h4, h5]
  rw [c4] at h5
  cases c5 : sizeB sz sm
  · rw [c5] at h6
    simp [F105, rcall, rcall, rcall, rcall, rcall, h1, h2, h3, h4, h5, h6]
  rw [c5] at h6
  cases g
  · simp [F105, rcall, rcall, rcall, rcall, rcall, h1, h2, h3, h4, h5, h6]
  cases c6 : sz != 0 <;> cases c7 : sm != 0 <;> simp [F105, rcall, rcall, rcall, rcall, rcall, h1, h2, h3, h4, h5, h6, c6, c7]
end Go.Ae.GF
namespace Go.Ae.GF
open Go.Proofs
set_option linter.unusedSimpArgs false

abbrev OkF (n : Nat) (F : F) : Prop := ∃ fn, Tryz.prog.funcs[n]? = some fn ∧ FOk Tryz.prog md fn F ∧ (fn.name == "runtime.NumGoroutine") = false
theorem ok38 : OkF 38 F38 := ⟨Tryz.f38, Tryz.func38, ⟨⟨_, rfl, .seq (.plain (by kernel_rfl)) (.seq (.plain (by kernel_rfl)) (.ret))⟩, by kernel_rfl, rfl, by decide⟩, by kernel_rfl⟩
theorem ok105 : OkF 105 F105 := ⟨Tryz.f105, Tryz.func105, ⟨⟨_, rfl, .seq (.plain (by kernel_rfl)) (.seq (.plain (by kernel_rfl)) (.ret))⟩, by kernel_rfl, rfl, by decide⟩, by kernel_rfl⟩
theorem ok111 : OkF 111 F111 := ⟨Tryz.f111, Tryz.func111, ⟨⟨_, rfl, .seq (.plain (by kernel_rfl)) (.seq (.draw (b := [0, 1, 0, 4, 15, 0, 32, 0, 128, 511, 1023, 2047, 4095]) (by unfold cIxs; kernel_rfl) (by kernel_rfl) (by kernel_rfl) (by kernel_rfl)) (.ret))⟩, by kernel_rfl, rfl, by decide⟩, by kernel_rfl⟩
theorem ok142 : OkF 142 F142 := ⟨Tryz.f142, Tryz.func142, ⟨⟨_, rfl, .seq (.plain (by kernel_rfl)) (.seq (.plain (by kernel_rfl)) (.ret))⟩, by kernel_rfl, rfl, by decide⟩, by kernel_rfl⟩
theorem ok143 : OkF 143 F143 := ⟨Tryz.f143, Tryz.func143, ⟨⟨_, rfl, .seq (.plain (by kernel_rfl)) (.seq (.plain (by kernel_rfl)) (.ret))⟩, by kernel_rfl, rfl, by decide⟩, by kernel_rfl⟩
theorem ok161 : OkF 161 F161 := ⟨Tryz.f161, Tryz.func161, ⟨⟨_, rfl, .seq (.plain (by kernel_rfl)) (.seq (.seq (.plain (by kernel_rfl)) (.block (.loop (.seq (.plain (by kernel_rfl)) (.seq (.cond (by kernel_rfl) (.skip) (.exit)) (.seq (.block (.seq (.plain (by kernel_rfl)) (.seq (.plain (by kernel_rfl)) (.seq (.plain (by kernel_rfl)) (.cond (by kernel_rfl) (.seq (.plain (by kernel_rfl)) (.ret)) (.skip)))))) (.plain (by kernel_rfl)))))))) (.seq (.plain (by kernel_rfl)) (.ret)))⟩, by kernel_rfl, rfl, by decide⟩, by kernel_rfl⟩
theorem ok176 : OkF 176 F176 := ⟨Tryz.f176, Tryz.func176, ⟨⟨_, rfl, .seq (.plain (by kernel_rfl)) (.seq (.plain (by kernel_rfl)) (.ret))⟩, by kernel_rfl, rfl, by decide⟩, by kernel_rfl⟩
theorem ok177 : OkF 177 F177 := ⟨Tryz.f177, Tryz.func177, ⟨⟨_, rfl, .seq (.plain (by kernel_rfl)) (.seq (.plain (by kernel_rfl)) (.ret))⟩, by kernel_rfl, rfl, by decide⟩, by kernel_rfl⟩
theorem ok185 : OkF 185 F185 := ⟨Tryz.f185, Tryz.func185, ⟨⟨_, rfl, .seq (.plain (by kernel_rfl)) (.seq (.plain (by kernel_rfl)) (.seq (.plain (by kernel_rfl)) (.seq (.seq (.plain (by kernel_rfl)) (.cond (by kernel_rfl) (.seq (.seq (.plain (by kernel_rfl)) (.cond (by kernel_rfl) (.seq (.plain (by kernel_rfl)) (.ret)) (.skip))) (.seq (.plain (by kernel_rfl)) (.ret))) (.skip))) (.seq (.seq (.plain (by kernel_rfl)) (.cond (by kernel_rfl) (.seq (.plain (by kernel_rfl)) (.ret)) (.skip))) (.seq (.seq (.plain (by kernel_rfl)) (.cond (by kernel_rfl) (.seq (.plain (by kernel_rfl)) (.ret)) (.skip))) (.seq (.seq (.plain (by kernel_rfl)) (.cond (by kernel_rfl) (.seq (.plain (by kernel_rfl)) (.ret)) (.skip))) (.seq (.plain (by kernel_rfl)) (.ret))))))))⟩, by kernel_rfl, rfl, by decide⟩, by kernel_rfl⟩
theorem ok188 : OkF 188 F188 := ⟨Tryz.f188, Tryz.func188, ⟨⟨_, rfl, .seq (.plain (by kernel_rfl)) (.seq (.plain (by kernel_rfl)) (.seq (.seq (.plain (by kernel_rfl)) (.block (.loop (.seq (.plain (by kernel_rfl)) (.seq (.cond (by kernel_rfl) (.skip) (.exit)) (.seq (.block (.seq (.plain (by kernel_rfl)) (.seq (.plain (by kernel_rfl)) (.cond (by kernel_rfl) (.seq (.plain (by kernel_rfl)) (.ret)) (.skip))))) (.plain (by kernel_rfl)))))))) (.seq (.plain (by kernel_rfl)) (.ret))))⟩, by kernel_rfl, rfl, by decide⟩, by kernel_rfl⟩
theorem ok227 : OkF 227 F227 := ⟨Tryz.f227, Tryz.func227, ⟨⟨_, rfl, .seq (.plain (by kernel_rfl)) (.seq (.plain (by kernel_rfl)) (.ret))⟩, by kernel_rfl, rfl, by decide⟩, by kernel_rfl⟩
theorem ok232 : OkF 232 F232 := ⟨Tryz.f232, Tryz.func232, ⟨⟨_, rfl, .seq (.plain (by kernel_rfl)) (.seq (.plain (by kernel_rfl)) (.ret))⟩, by kernel_rfl, rfl, by decide⟩, by kernel_rfl⟩
set_option maxRecDepth 100000 in
theorem progOk : ProgOk Tryz.prog code where
  fn := fun f F _ _ h => by
    simp only [code, fns] at h
    split at h
    · cases h; exact ok38
    · cases h; exact ok105
    · cases h; exact ok111
    · cases h; exact ok142
    · cases h; exact ok143
    · cases h; exact ok161
    · cases h; exact ok176
    · cases h; exact ok177
    · cases h; exact ok185
    · cases h; exact ok188
    · cases h; exact ok227
    · cases h; exact ok232
    · cases h
  nat := fun f h args E v bs hn _ => by simp [code] at hn
  natR := fun f h args E r hn _ => by simp [code, natsR] at hn
end Go.Ae.GF
set_option linter.unusedSimpArgs false
set_option linter.unusedVariables false
namespace Go.Proofs
open Go.RowKit Go.Lib Go.Ae Go.Maps Go.WideMaps
theorem entryK (ve vs pe ps : Int) (nm : ByteArray) (g : Bool) (sz sm rc rn : Int) (w : World) (hs : nm.size ≤ 1048576) :
    Calls Tryz.prog 105 #[.agg #[.int .i64 ve, .int .i64 vs, .int .i64 pe, .int .i64 ps, .string nm, .bool g, .int .i64 sz, .int .i64 sm, .int .i64 rc, .int .i64 rn]] w fun e w' => e = .returned (.bool (GA.entB ⟨ve, vs, pe, ps, nm, g, sz, sm, rc, rn⟩)) ∧ Below w.heap.size w w' := by
  have h := (Go.Ae.call_ok (P := Tryz.prog) GF.progOk (by kernel_rfl) 5).ok 105 _ [] _ (GF.entryOk 0 ve vs pe ps nm g sz sm rc rn hs)
  refine (h w (fun _ => False) ⟨fun _ _ _ => none, fun _ => 0⟩ _ ⟨fun B h => h.elim⟩ (fun _ _ => rfl) ?_ ?_).mono ?_
  · refine ⟨rfl, rfl, rfl, Nat.le_refl _, fun B _ _ => rfl, (fun _ _ _ _ h => by cases h), (fun _ _ _ h => by cases h), (fun _ _ _ _ h => by cases h), (fun _ _ _ _ _ _ _ h => by cases h), fun lv s b p ys hb hn => ?_⟩
    cases lv <;> simp [St.blk, St.heap, Heap.get] at hb
  · refine ⟨rfl, fun i v hv => ?_⟩
    match i, hv with
    | 0, hv =>
      cases hv
      refine .agg _ _ rfl fun i v hv => ?_
      match i, hv with
      | 0, hv => cases hv; exact .int _ _
      | 1, hv => cases hv; exact .int _ _
      | 2, hv => cases hv; exact .int _ _
      | 3, hv => cases hv; exact .int _ _
      | 4, hv => cases hv; exact .str _
      | 5, hv => cases hv; exact .bool _
      | 6, hv => cases hv; exact .int _ _
      | 7, hv => cases hv; exact .int _ _
      | 8, hv => cases hv; exact .int _ _
      | 9, hv => cases hv; exact .int _ _
      | i + 10, hv => simp at hv
    | i + 1, hv => simp at hv
  · rintro e w' ⟨cv, g', rfl, hW, _, hv⟩
    have hb : Below w.heap.size w w' := ⟨hW.os, hW.tape, hW.output, hW.size, fun B hB => hW.keep B hB (fun _ _ _ => by simp)⟩
    refine ⟨?_, hb⟩
    cases hv with
    | bool _ => rfl
theorem law9 : Keyed Tryz.prog 9 := string_keyed Tryz.underlying9
end Go.Proofs
set_option linter.unusedSimpArgs false
set_option linter.unusedVariables false
namespace Go.Proofs
open Go.RowKit Go.Lib Go.Ae Go.Maps Go.WideMaps
def nkey (x : GA.N) : Lit := .string x
/-- A map's datum whose keys are these names. -/
structure NHas (D : DataW Unit) (ns : List GA.N) : Prop where
  tidy : Tidy D
  nodup : ns.Nodup
  has : ∀ x : GA.N, Maps.has D (.string x) = ns.contains x
  size : Maps.size D = ns.length
theorem nhas_nil : NHas (.map []) [] := ⟨tidy_empty, by simp, fun x => rfl, rfl⟩
theorem keyLit (x : GA.N) : WideAt.IsKeyLit (.string x) := by simp [WideAt.IsKeyLit]
theorem nhas_add {D : DataW Unit} {ns : List GA.N} (h : NHas D ns) (x : GA.N) (d : DataW Unit) : NHas (D.put (.string x) d) (GA.addN ns x) := by
  refine ⟨h.tidy.put (keyLit x) d, ?_, fun y => ?_, ?_⟩
  · unfold GA.addN
    split
    · exact h.nodup
    · rename_i hx
      rw [List.nodup_append]
      exact ⟨h.nodup, by simp, fun a ha b hb => by simp at hb; subst hb; intro e; subst e; simp at hx; exact hx ha⟩
  · by_cases e : y = x
    · subst e
      rw [has_put_same h.tidy.isMap (keyLit y)]
      unfold GA.addN
      split
      · rename_i hx; exact hx.symm
      · simp
    · rw [has_put_other (by intro e'; cases e'; exact e rfl), h.has]
      unfold GA.addN
      split
      · rfl
      · simp [e]
  · rw [size_put h.tidy, h.has, h.size]
    unfold GA.addN
    split <;> simp_all
theorem nhas_del {D : DataW Unit} {ns : List GA.N} (h : NHas D ns) (x : GA.N) : NHas (D.del (.string x)) (GA.delN ns x) := by
  refine ⟨h.tidy.del _, h.nodup.filter _, fun y => ?_, ?_⟩
  · by_cases e : y = x
    · subst e
      rw [has_del_same]
      simp [GA.delN]
    · rw [has_del_other (by intro e'; cases e'; exact e rfl), h.has]
      simp [GA.delN, e]
  · have h1 := size_del (k := .string x) h.tidy
    rw [h.has, h.size] at h1
    have h2 : (GA.delN ns x).length + (if ns.contains x then 1 else 0) = ns.length := by
      unfold GA.delN
      have hn := h.nodup
      clear h1 h
      induction ns with
      | nil => rfl
      | cons a r ih =>
        have ih := ih hn.of_cons
        have ha := (List.nodup_cons.1 hn).1
        by_cases e : a = x
        · subst e
          have : r.filter (fun y => y != a) = r := List.filter_eq_self.2 fun y hy => by simp; intro e; subst e; exact ha hy
          simp [this]
        · have e' : ¬ x = a := fun h => e h.symm
          simp [e, e'] at ih ⊢
          omega
    omega
end Go.Proofs
namespace Go.Ae.GA
open Go.RowKit
set_option linter.unusedVariables false
set_option linter.unusedSimpArgs false
section
variable {P : Program} {f : Nat} {args : List AV} {E : List Heap} {v : AV} {bs : List Blk}
theorem callOk_bool {n : Bool} (h : ∀ (w : World) (R : Nat → Prop) (g : G) (cargs : Array Value), RdW w g.θ R → VRels ⟨args, [], E⟩ g (stab w R) args cargs → Calls P f cargs w fun e w' => e = .returned (.bool n) ∧ Below w.heap.size w w') : CallOk P f args E ⟨.bool n, [], E⟩ := by
  intro w R g cargs hR hθ hW hv
  refine (h w R g cargs hR hv).mono ?_
  rintro e w' ⟨rfl, hb⟩
  have hs : ∀ lv, (resSt ⟨.bool n, [], E⟩).heap lv = (⟨args, [], E⟩ : St).heap lv := fun lv => by cases lv <;> rfl
  exact ⟨_, g, rfl, (hW.world hb.os hb.tape hb.output hb.size hb.block).sameHeap hs, Ext.sameHeap hs, .bool n⟩
theorem one_arg {S : St} {g : G} {cell : Addr → Option Value} {a : AV} {arr : Array Value} (h : VRels S g cell [a] arr) : ∃ x, arr = #[x] ∧ VRel S g cell a x := by
  obtain ⟨h1, h2⟩ := h
  have hs : arr.size = 1 := h1.symm
  refine ⟨arr.getD 0 undef, ?_, h2 0 a rfl⟩
  apply Array.ext
  · simp [hs]
  · intro i hi hj
    rcases i with _ | i
    all_goals first | (simp [hs]; done) | omega
theorem vrel_agg12 {S : St} {g : G} {cell : Addr → Option Value} {a0 a1 a2 a3 a4 a5 a6 a7 a8 a9 a10 a11 : AV} {x : Value} (h : VRel S g cell (.agg [a0, a1, a2, a3, a4, a5, a6, a7, a8, a9, a10, a11]) x) :
    ∃ v0 v1 v2 v3 v4 v5 v6 v7 v8 v9 v10 v11, x = .agg #[v0, v1, v2, v3, v4, v5, v6, v7, v8, v9, v10, v11] ∧ VRel S g cell a4 v4 ∧ VRel S g cell a5 v5 ∧ VRel S g cell a6 v6 ∧ VRel S g cell a8 v8 := by
  cases h with
  | agg _ arr hl hr =>
    have hs : arr.size = 12 := hl.symm
    refine ⟨arr.getD 0 Go.undef, arr.getD 1 Go.undef, arr.getD 2 Go.undef, arr.getD 3 Go.undef, arr.getD 4 Go.undef, arr.getD 5 Go.undef, arr.getD 6 Go.undef, arr.getD 7 Go.undef, arr.getD 8 Go.undef, arr.getD 9 Go.undef, arr.getD 10 Go.undef, arr.getD 11 Go.undef, ?_, hr 4 _ rfl, hr 5 _ rfl, hr 6 _ rfl, hr 8 _ rfl⟩
    congr 1
    apply Array.ext
    · simp [hs]
    · intro i hi hj
      rcases i with _ | _ | _ | _ | _ | _ | _ | _ | _ | _ | _ | _ | i
      all_goals first | (simp [hs]; done) | omega
/-- A slice that is only read: where its cells lie. -/
theorem rd_cells {S : St} {g : G} {w : World} {R : Nat → Prop} {fl : Bool} {xs : List (List AV)} {x : Value} {n : Nat} (h : VRel S g (stab w R) (.rd fl xs) x) (hn : ∀ r ∈ xs, r.length = n) (h0 : 0 < n) :
    ∃ A cap, x = .slice A xs.length cap ∧ (xs ≠ [] → ∃ b o, A = some ⟨b, o, none⟩ ∧ b < w.heap.size ∧ ∀ i c v, cellAt xs i c = some v → ∃ cv, w.cell? ⟨b, o + (i * n + c), none⟩ = some cv ∧ Rd (stab w R) v cv) := by
  have hr := h.rd_inv
  cases hr with
  | rd _ _ A cap sz cv g1 g2 g3 g4 g5 =>
    refine ⟨A, cap, rfl, fun hne => ?_⟩
    obtain ⟨r, rs, rfl⟩ := List.exists_cons_of_ne_nil hne
    have hsz : sz = n := by rw [← g2 r (by simp), hn r (by simp)]
    subst hsz
    have hr0 : 0 < r.length := by rw [g2 r (by simp)]; exact h0
    have hc0 : cellAt (r :: rs) 0 0 = some (r[0]'hr0) := by simp [cellAt, hr0]
    obtain ⟨ad, rfl, ha⟩ := g4 0 0 _ hc0
    have hcell0 := stab_cell? ha
    have hsp : ad.spot = none := by
      have := cell_spot hcell0
      simpa [Addr.add] using this
    obtain ⟨b, o, sp⟩ := ad
    simp only at hsp
    subst hsp
    refine ⟨b, o, rfl, ?_, fun i c v hv => ?_⟩
    · rw [Addr.add_lit] at hcell0
      exact World.block_lt_of_cell? w _ hcell0
    · obtain ⟨a', e1, e2⟩ := g4 i c v hv
      cases e1
      have := stab_cell? e2
      rw [Addr.add_lit] at this
      exact ⟨_, this, g5 i c v hv⟩
theorem headsOf_rows : ∀ {xs : List (List AV)} {l : List ByteArray}, headsOf xs = some l → l.length = xs.length ∧ (∀ r ∈ xs, r.length = 5) ∧ ∀ (j : Nat) (s : ByteArray), l[j]? = some s → ∃ a b c d, xs[j]? = some [AV.str s, AV.int .i64 a, AV.int .i64 b, AV.int .i64 c, AV.int .i64 d]
  | [], l, h => by simp [headsOf] at h; subst h; simp
  | r :: xs, l, h => by
    unfold headsOf at h
    split at h
    · rename_i e; cases e
    · rename_i s a b c d r' e
      cases e
      split at h
      · rename_i l' hl
        cases h
        obtain ⟨i1, i2, i3⟩ := headsOf_rows hl
        refine ⟨by simp [i1], fun r hr => ?_, fun j s' hj => ?_⟩
        · rcases List.mem_cons.1 hr with rfl | hr
          · rfl
          · exact i2 r hr
        · cases j with
          | zero => simp at hj; subst hj; exact ⟨a, b, c, d, rfl⟩
          | succ j => exact i3 j s' (by simpa using hj)
      · cases h
    · cases h
theorem entOf_row {r : List AV} {e : Ent} (h : entOf r = some e) : r = [.int .i64 e.ve, .int .i64 e.vs, .int .i64 e.pe, .int .i64 e.ps, .str e.name, .bool e.gone, .int .i64 e.size, .int .i64 e.sum, .int .i64 e.rc, .int .i64 e.rn] := by
  unfold entOf at h
  split at h
  · cases h; rfl
  · cases h
theorem entsOf_rows : ∀ {xs : List (List AV)} {l : List Ent}, entsOf xs = some l → l.length = xs.length ∧ (∀ r ∈ xs, r.length = 10) ∧ ∀ (j : Nat) (e : Ent), l[j]? = some e → xs[j]? = some [AV.int .i64 e.ve, .int .i64 e.vs, .int .i64 e.pe, .int .i64 e.ps, .str e.name, .bool e.gone, .int .i64 e.size, .int .i64 e.sum, .int .i64 e.rc, .int .i64 e.rn]
  | [], l, h => by simp [entsOf] at h; subst h; simp
  | r :: xs, l, h => by
    unfold entsOf at h
    split at h
    · rename_i e l' he hl
      cases h
      obtain ⟨i1, i2, i3⟩ := entsOf_rows hl
      have hr := entOf_row he
      refine ⟨by simp [i1], fun q hq => ?_, fun j e' hj => ?_⟩
      · rcases List.mem_cons.1 hq with rfl | hq
        · rw [hr]; rfl
        · exact i2 q hq
      · cases j with
        | zero => simp at hj; subst hj; simp [hr]
        | succ j => exact i3 j e' (by simpa using hj)
    · cases h
theorem rdI {cell : Addr → Option Value} {k : IntKind} {n : Int} {u : Value} (h : Rd cell (.int k n) u) : u = .int k n := by cases h; rfl
theorem rdB {cell : Addr → Option Value} {n : Bool} {u : Value} (h : Rd cell (.bool n) u) : u = .bool n := by cases h; rfl
theorem natLogOk_ok (hc : ∀ (v0 v1 v2 v3 sC fe fs sCh : Value) (te ts : Int) (A1 A2 : Option Addr) (c1 c2 : Nat) (hs : List ByteArray) (es : List Ent) (w : World),
      (hs ≠ [] → ∃ b o, A1 = some ⟨b, o, none⟩ ∧ b < w.heap.size ∧ ∀ j s, hs[j]? = some s → w.cell? ⟨b, o + j * 5, none⟩ = some (.string s) ∧ ∃ x1 x2 x3 x4 : Int, w.cell? ⟨b, o + j * 5 + 1, none⟩ = some (.int .i64 x1) ∧ w.cell? ⟨b, o + j * 5 + 2, none⟩ = some (.int .i64 x2) ∧ w.cell? ⟨b, o + j * 5 + 3, none⟩ = some (.int .i64 x3) ∧ w.cell? ⟨b, o + j * 5 + 4, none⟩ = some (.int .i64 x4)) →
      (es ≠ [] → ∃ b o, A2 = some ⟨b, o, none⟩ ∧ b < w.heap.size ∧ ∀ j e, es[j]? = some e → w.cell? ⟨b, o + j * 10, none⟩ = some (.int .i64 e.ve) ∧ w.cell? ⟨b, o + j * 10 + 1, none⟩ = some (.int .i64 e.vs) ∧ w.cell? ⟨b, o + j * 10 + 2, none⟩ = some (.int .i64 e.pe) ∧ w.cell? ⟨b, o + j * 10 + 3, none⟩ = some (.int .i64 e.ps) ∧
        w.cell? ⟨b, o + j * 10 + 4, none⟩ = some (.string e.name) ∧ w.cell? ⟨b, o + j * 10 + 5, none⟩ = some (.bool e.gone) ∧ w.cell? ⟨b, o + j * 10 + 6, none⟩ = some (.int .i64 e.size) ∧ w.cell? ⟨b, o + j * 10 + 7, none⟩ = some (.int .i64 e.sum) ∧ w.cell? ⟨b, o + j * 10 + 8, none⟩ = some (.int .i64 e.rc) ∧ w.cell? ⟨b, o + j * 10 + 9, none⟩ = some (.int .i64 e.rn)) →
      (∀ e ∈ es, e.name.size ≤ 1048576) → es.length ≤ 1048576 → (∀ s ∈ hs, s.size ≤ 1048576) → hs.length ≤ 1048576 →
      Calls P f #[.agg #[v0, v1, v2, v3, .int .i64 te, .int .i64 ts, .slice A1 hs.length c1, sC, .slice A2 es.length c2, fe, fs, sCh]] w fun e w' => e = .returned (.bool (logB te ts hs es)) ∧ Below w.heap.size w w')
    (h : natLogOk args = some (v, bs)) : CallOk P f args E ⟨v, bs, E⟩ := by
  unfold natLogOk at h
  split at h
  · rename_i q0 q1 q2 q3 te ts fl xs q7 fl' ys q9 q10 q11
    split at h
    · rename_i hs es hhs hes
      split at h
      · rename_i hb
        cases h
        obtain ⟨z1, z3, z2, z4⟩ := hb
        refine callOk_bool fun w R g cargs hR hv => ?_
        obtain ⟨x, rfl, hx⟩ := one_arg hv
        obtain ⟨v0, v1, v2, v3, v4, v5, v6, v7, v8, v9, v10, v11, rfl, e4, e5, e6, e8⟩ := vrel_agg12 hx
        rw [e4.int_inv, e5.int_inv]
        obtain ⟨i1, i2, i3⟩ := headsOf_rows hhs
        obtain ⟨k1, k2, k3⟩ := entsOf_rows hes
        obtain ⟨A1, c1, rfl, m1⟩ := rd_cells e6 i2 (by omega)
        obtain ⟨A2, c2, rfl, m2⟩ := rd_cells e8 k2 (by omega)
        rw [← i1, ← k1]
        refine hc v0 v1 v2 v3 v7 v9 v10 v11 te ts A1 A2 c1 c2 hs es w (fun hne => ?_) (fun hne => ?_) z3 z4 z1 z2
        · obtain ⟨b, o, rfl, hlt, hcell⟩ := m1 (by intro e; subst e; simp at i1; exact hne i1)
          refine ⟨b, o, rfl, hlt, fun j s hj => ?_⟩
          obtain ⟨a1, a2, a3, a4, hrow⟩ := i3 j s hj
          have at_ : ∀ c v, [AV.str s, .int .i64 a1, .int .i64 a2, .int .i64 a3, .int .i64 a4][c]? = some v → ∃ cv, w.cell? ⟨b, o + (j * 5 + c), none⟩ = some cv ∧ Rd (stab w R) v cv := fun c v hv => hcell j c v (by unfold cellAt; rw [hrow]; exact hv)
          obtain ⟨u0, w0, r0⟩ := at_ 0 _ rfl
          obtain ⟨u1, w1, r1⟩ := at_ 1 _ rfl
          obtain ⟨u2, w2, r2⟩ := at_ 2 _ rfl
          obtain ⟨u3, w3, r3⟩ := at_ 3 _ rfl
          obtain ⟨u4, w4, r4⟩ := at_ 4 _ rfl
          rw [rd_str r0] at w0
          rw [rdI r1] at w1
          rw [rdI r2] at w2
          rw [rdI r3] at w3
          rw [rdI r4] at w4
          exact ⟨w0, a1, a2, a3, a4, w1, w2, w3, w4⟩
        · obtain ⟨b, o, rfl, hlt, hcell⟩ := m2 (by intro e; subst e; simp at k1; exact hne k1)
          refine ⟨b, o, rfl, hlt, fun j s hj => ?_⟩
          have hrow := k3 j s hj
          have at_ : ∀ c v, [AV.int .i64 s.ve, .int .i64 s.vs, .int .i64 s.pe, .int .i64 s.ps, .str s.name, .bool s.gone, .int .i64 s.size, .int .i64 s.sum, .int .i64 s.rc, .int .i64 s.rn][c]? = some v → ∃ cv, w.cell? ⟨b, o + (j * 10 + c), none⟩ = some cv ∧ Rd (stab w R) v cv := fun c v hv => hcell j c v (by unfold cellAt; rw [hrow]; exact hv)
          obtain ⟨u0, w0, r0⟩ := at_ 0 _ rfl
          obtain ⟨u1, w1, r1⟩ := at_ 1 _ rfl
          obtain ⟨u2, w2, r2⟩ := at_ 2 _ rfl
          obtain ⟨u3, w3, r3⟩ := at_ 3 _ rfl
          obtain ⟨u4, w4, r4⟩ := at_ 4 _ rfl
          obtain ⟨u5, w5, r5⟩ := at_ 5 _ rfl
          obtain ⟨u6, w6, r6⟩ := at_ 6 _ rfl
          obtain ⟨u7, w7, r7⟩ := at_ 7 _ rfl
          obtain ⟨u8, w8, r8⟩ := at_ 8 _ rfl
          obtain ⟨u9, w9, r9⟩ := at_ 9 _ rfl
          rw [rdI r0] at w0
          rw [rdI r1] at w1
          rw [rdI r2] at w2
          rw [rdI r3] at w3
          rw [rd_str r4] at w4
          rw [rdB r5] at w5
          rw [rdI r6] at w6
          rw [rdI r7] at w7
          rw [rdI r8] at w8
          rw [rdI r9] at w9
          exact ⟨w0, w1, w2, w3, w4, w5, w6, w7, w8, w9⟩
      · cases h
    · cases h
  · cases h
end
end Go.Ae.GA
set_option linter.unusedSimpArgs false
set_option linter.unusedVariables false
namespace Go.Proofs
open Go.RowKit Go.Lib Go.Ae Go.Maps Go.WideMaps
theorem key_ok {s : ByteArray} (hs : s.size ≤ 1048576) : keyOf Tryz.prog 9 (.string s) = some (.string s.data.toList) :=
  keyOf_string_mk Tryz.underlying9 (by unfold maxLen; omega)
/-- The datum of the names is kept. -/
def NamesAt (w : World) (b n : Nat) (ns : List GA.N) : Prop := ∃ D, w.ownsMap Tryz.prog 9 (plainElem (H := Unit) Tryz.prog 4) b n D ∧ NHas D ns
set_option maxHeartbeats 4000000 in
set_option maxRecDepth 100000 in
theorem logOkK (v0 v1 v2 v3 sC fe fs sCh : Value) (te ts : Int) (A1 A2 : Option Addr) (c1 c2 : Nat) (hs : List ByteArray) (es : List GA.Ent) (w : World)
    (h1 : hs ≠ [] → ∃ b o, A1 = some ⟨b, o, none⟩ ∧ b < w.heap.size ∧ ∀ j s, hs[j]? = some s → w.cell? ⟨b, o + j * 5, none⟩ = some (.string s) ∧ ∃ x1 x2 x3 x4 : Int, w.cell? ⟨b, o + j * 5 + 1, none⟩ = some (.int .i64 x1) ∧ w.cell? ⟨b, o + j * 5 + 2, none⟩ = some (.int .i64 x2) ∧ w.cell? ⟨b, o + j * 5 + 3, none⟩ = some (.int .i64 x3) ∧ w.cell? ⟨b, o + j * 5 + 4, none⟩ = some (.int .i64 x4))
    (h2 : es ≠ [] → ∃ b o, A2 = some ⟨b, o, none⟩ ∧ b < w.heap.size ∧ ∀ j e, es[j]? = some e → w.cell? ⟨b, o + j * 10, none⟩ = some (.int .i64 e.ve) ∧ w.cell? ⟨b, o + j * 10 + 1, none⟩ = some (.int .i64 e.vs) ∧ w.cell? ⟨b, o + j * 10 + 2, none⟩ = some (.int .i64 e.pe) ∧ w.cell? ⟨b, o + j * 10 + 3, none⟩ = some (.int .i64 e.ps) ∧
      w.cell? ⟨b, o + j * 10 + 4, none⟩ = some (.string e.name) ∧ w.cell? ⟨b, o + j * 10 + 5, none⟩ = some (.bool e.gone) ∧ w.cell? ⟨b, o + j * 10 + 6, none⟩ = some (.int .i64 e.size) ∧ w.cell? ⟨b, o + j * 10 + 7, none⟩ = some (.int .i64 e.sum) ∧ w.cell? ⟨b, o + j * 10 + 8, none⟩ = some (.int .i64 e.rc) ∧ w.cell? ⟨b, o + j * 10 + 9, none⟩ = some (.int .i64 e.rn))
    (z3 : ∀ e ∈ es, e.name.size ≤ 1048576) (z4 : es.length ≤ 1048576)
    (z1 : ∀ s ∈ hs, s.size ≤ 1048576) (z2 : hs.length ≤ 1048576) :
    Calls Tryz.prog 145 #[.agg #[v0, v1, v2, v3, .int .i64 te, .int .i64 ts, .slice A1 hs.length c1, sC, .slice A2 es.length c2, fe, fs, sCh]] w fun e w' => e = .returned (.bool (GA.logB te ts hs es)) ∧ Below w.heap.size w w' := by
  have H1 := Lib.hid h1
  have Z1 := Lib.hid z1
  have H2 := Lib.hid h2
  have Z2 := Lib.hid z3
  clear h1 z1 h2 z3
  have hmm := @run_makeMap Tryz.prog
  go_enter Tryz.func145, Tryz.ntmps145
  go_wp2_with fail
  go_loopw [15] (fun i wr => ∃ k : Nat, k ≤ hs.length ∧ i = .int .i64 (k : Int) ∧ Hid (NamesAt wr (w.heap.size + 1 + 1) k (((hs.take k).map (·.data.toList)).foldl GA.addN [])) ∧
      Hid (Below (w.heap.size + 1 + 1) ((w.alloc (Obj.cells #[v0, v1, v2, v3, Value.int IntKind.i64 te, Value.int IntKind.i64 ts, Value.slice A1 hs.length c1, sC, Value.slice A2 es.length c2, fe, fs, sCh] 40)).alloc (Obj.cells #[Value.int IntKind.i64 te, Value.int IntKind.i64 ts] 34)) wr)) (fun i _ => hs.length - (RowKit.intOf i).toNat)
  case atStart =>
    refine ⟨0, Nat.zero_le _, by simp, Lib.hid ⟨.map [], ?_, nhas_nil⟩, Lib.hid ?_⟩
    · have := World.ownsMap_made ((w.alloc (Obj.cells #[v0, v1, v2, v3, Value.int IntKind.i64 te, Value.int IntKind.i64 ts, Value.slice A1 hs.length c1, sC, Value.slice A2 es.length c2, fe, fs, sCh] 40)).alloc (Obj.cells #[Value.int IntKind.i64 te, Value.int IntKind.i64 ts] 34)) Tryz.prog 9 (plainElem (H := Unit) Tryz.prog 4)
      simpa using this
    · exact (Below.refl _ _).alloc (by simp) _
  case round =>
    obtain ⟨k, hk, rfl, HM, HW⟩ := hrel
    by_cases hkm : k < hs.length
    · obtain ⟨b, o, hA, hb, hc⟩ := H1.out (by intro e; subst e; simp at hkm)
      subst hA
      obtain ⟨g0, x1, x2, x3, x4, g1, g2, g3, g4⟩ := hc k hs[k] (List.getElem?_eq_getElem hkm)
      have hsz := Z1.out hs[k] (List.getElem_mem hkm)
      have hsucc : ((hs.take (k + 1)).map (·.data.toList)).foldl GA.addN [] = GA.addN (((hs.take k).map (·.data.toList)).foldl GA.addN []) hs[k].data.toList := by
        rw [List.take_succ_eq_append_getElem hkm, List.map_append, List.foldl_append]; rfl
      have HS := Lib.hid hsucc
      clear hsucc hc
      generalize hs[k] = s at *
      have old : ∀ c, (v : Value) → w.cell? ⟨b, c, none⟩ = some v → wr.cell? ⟨b, c, none⟩ = some v := fun c v hv => by
        rw [HW.out.cell (p := ⟨b, c, none⟩) (by show b < _; omega), World.cell?_alloc_past _ _ _ (by simp; omega), World.cell?_alloc_past _ _ _ (by exact hb)]
        exact hv
      replace g0 := old _ _ g0
      replace g1 := old _ _ g1
      replace g2 := old _ _ g2
      replace g3 := old _ _ g3
      replace g4 := old _ _ g4
      clear old
      obtain ⟨D, hown, hnh⟩ := HM.out
      have HN := Lib.hid hnh
      clear hnh
      have hwsz : w.heap.size + 1 + 1 < wr.heap.size := hown.lt
      have hkey := key_ok hsz
      go_wp2_with (first
        | (at_mapUpdate; refine wpList_mapUpdate_own _ rfl _ _ _ 243 rfl 9 4 law9 Tryz.underlying243 (plainElem (H := Unit) Tryz.prog 4) (w.heap.size + 1 + 1) k D rfl (hown.alloc _) (by unfold maxLen; omega) _ _ _ rfl rfl hkey _ [] (plainElem_bool Tryz.underlying4 true) ?_; intro w1 hown1 hgrow1)
        | go_in)
      exact ⟨⟨k + 1, hkm, by go_num, Lib.hid ⟨_, hown1, HS.out ▸ nhas_add HN.out _ _⟩, Lib.hid ((HW.out.alloc (by omega) _).grown hgrow1 (by simp; omega) (fun j hj => by cases hj; exact Nat.le_refl _))⟩, by simp [RowKit.intOf]; omega⟩
    · have : k = hs.length := by omega
      subst this
      have hfull : hs.take hs.length = hs := List.take_of_length_le (Nat.le_refl _)
      rw [hfull] at HM
      have hcopy : ∀ j, wr.cell? ⟨w.heap.size, j, none⟩ = (#[v0, v1, v2, v3, Value.int IntKind.i64 te, Value.int IntKind.i64 ts, Value.slice A1 hs.length c1, sC, Value.slice A2 es.length c2, fe, fs, sCh] : Array Value)[j]? := fun j => by
        rw [HW.out.cell (p := ⟨w.heap.size, j, none⟩) (by show w.heap.size < w.heap.size + 1 + 1; omega), World.cell?_alloc_past _ _ _ (by simp)]
        exact Lib.cell_of_heap (heap_alloc_new w _) j
      have hpheap : wr.heap[w.heap.size + 1]? = some (.cells #[Value.int IntKind.i64 te, Value.int IntKind.i64 ts] 34 (0, 0)) := by
        rw [HW.out.block _ (by omega)]
        have := heap_alloc_new (w.alloc (Obj.cells #[v0, v1, v2, v3, Value.int IntKind.i64 te, Value.int IntKind.i64 ts, Value.slice A1 hs.length c1, sC, Value.slice A2 es.length c2, fe, fs, sCh] 40)) (Obj.cells #[Value.int IntKind.i64 te, Value.int IntKind.i64 ts] 34)
        simpa using this
      have HB : Hid (Below (w.heap.size + 1) (w.alloc (Obj.cells #[v0, v1, v2, v3, Value.int IntKind.i64 te, Value.int IntKind.i64 ts, Value.slice A1 hs.length c1, sC, Value.slice A2 es.length c2, fe, fs, sCh] 40)) wr) :=
        Lib.hid (((Below.refl _ _).alloc (by simp) _).trans (HW.out.mono (by omega)))
      have s0 := hcopy 8
      simp at s0
      have HP := Lib.hid hpheap
      clear hpheap
      have HC := Lib.hid hcopy
      clear hcopy hfull HW
      generalize hns : ((hs.map (·.data.toList)).foldl GA.addN []) = ns at *
      have HL : Hid (GA.logB te ts hs es = (GA.logR te ts ns es && decide (es.length ≤ 24))) := Lib.hid (by unfold GA.logB; rw [hns])
      clear hns
      generalize hs.length = hn at *
      go_wp2_with fail
      go_loopw [26] (fun i wr => ∃ (k : Nat) (pe ps : Int) (n1 : List GA.N), k ≤ es.length ∧ i = .int .i64 (k : Int) ∧ Hid (wr.heap[w.heap.size + 1]? = some (.cells #[Value.int IntKind.i64 pe, Value.int IntKind.i64 ps] 34 (0, 0))) ∧ Hid (NamesAt wr (w.heap.size + 1 + 1) (hn + k) n1) ∧
          Hid (Below (w.heap.size + 1) (w.alloc (Obj.cells #[v0, v1, v2, v3, Value.int IntKind.i64 te, Value.int IntKind.i64 ts, Value.slice A1 hn c1, sC, Value.slice A2 es.length c2, fe, fs, sCh] 40)) wr) ∧ Hid (GA.logR te ts ns es = GA.logR pe ps n1 (es.drop k))) (fun i _ => es.length - (RowKit.intOf i).toNat)
      case atStart => exact ⟨0, te, ts, ns, Nat.zero_le _, by simp, HP, HM, HB, Lib.hid rfl⟩
      case round =>
        clear HP HM HB s0 hmm
        obtain ⟨k, pe, ps, n1, hk, rfl, HP, HM, HB, HR⟩ := hrel
        by_cases hkm : k < es.length
        · obtain ⟨b, o, hA, hb, hc⟩ := H2.out (by intro e; subst e; simp at hkm)
          subst hA
          have hdrop := List.drop_eq_getElem_cons hkm
          have hc := hc k es[k] (List.getElem?_eq_getElem hkm)
          have hsz := Z2.out es[k] (List.getElem_mem hkm)
          generalize es[k] = e at *
          obtain ⟨ve, vs, qe, qs, nm, gn, sz, sm, rc, rn⟩ := e
          have hR' := HR.out
          rw [hdrop] at hR'
          simp only [GA.logR] at hR'
          have HR' := Lib.hid hR'
          clear hR' hdrop HR
          have old : ∀ c, (v : Value) → w.cell? ⟨b, c, none⟩ = some v → wr.cell? ⟨b, c, none⟩ = some v := fun c v hv => by
            rw [HB.out.cell (p := ⟨b, c, none⟩) (by show b < _; omega), World.cell?_alloc_past _ _ _ (by exact hb)]
            exact hv
          obtain ⟨g0, g1, g2, g3, g4, g5, g6, g7, g8, g9⟩ := hc
          replace g0 := old _ _ g0
          replace g1 := old _ _ g1
          replace g2 := old _ _ g2
          replace g3 := old _ _ g3
          replace g4 := old _ _ g4
          replace g5 := old _ _ g5
          replace g6 := old _ _ g6
          replace g7 := old _ _ g7
          replace g8 := old _ _ g8
          replace g9 := old _ _ g9
          clear old
          obtain ⟨D, hown, hnh⟩ := HM.out
          have HN := Lib.hid hnh
          clear hnh HM
          have hwsz : w.heap.size + 1 + 1 < wr.heap.size := hown.lt
          have hkey := key_ok hsz
          have HE := fun w => Lib.hid (entryK ve vs qe qs nm gn sz sm rc rn w hsz)
          go_wp2_with fail
          refine (HE _).out.mono ?_
          rintro e w5 ⟨rfl, hb5⟩
          have hbox : ∀ j, w5.cell? ⟨wr.heap.size, j, none⟩ = (#[.int .i64 ve, .int .i64 vs, .int .i64 qe, .int .i64 qs, .string nm, .bool gn, .int .i64 sz, .int .i64 sm, .int .i64 rc, .int .i64 rn] : Array Value)[j]? := fun j => by
            rw [hb5.cell (p := ⟨wr.heap.size, j, none⟩) (by simp)]
            exact Lib.cell_of_heap (heap_alloc_new wr _) j
          have b0 := hbox 0
          have b1 := hbox 1
          have b2 := hbox 2
          have b3 := hbox 3
          have b4 := hbox 4
          have b5 := hbox 5
          simp at b0 b1 b2 b3 b4 b5
          have hp5 : w5.heap[w.heap.size + 1]? = some (.cells #[Value.int IntKind.i64 pe, Value.int IntKind.i64 ps] 34 (0, 0)) := by
            rw [hb5.block _ (by simp; omega), Below.heap_alloc wr _ _ (by omega)]
            exact HP.out
          have p0 := Lib.cell_of_heap hp5 0
          have p1 := Lib.cell_of_heap hp5 1
          have q0 := Lib.frozen_of_heap hp5 0
          have q1 := Lib.frozen_of_heap hp5 1
          simp at p0 p1
          have hown5 := (hown.alloc (Obj.cells #[.int .i64 ve, .int .i64 vs, .int .i64 qe, .int .i64 qs, .string nm, .bool gn, .int .i64 sz, .int .i64 sm, .int .i64 rc, .int .i64 rn] 68)).kept (w' := w5) (row := none) ⟨hb5.os, hb5.tape, hb5.output, hb5.size, fun i hi _ => hb5.block i hi⟩ (by simp)
          have HB5 := Lib.hid ((HB.out.alloc (by omega) (Obj.cells #[.int .i64 ve, .int .i64 vs, .int .i64 qe, .int .i64 qs, .string nm, .bool gn, .int .i64 sz, .int .i64 sm, .int .i64 rc, .int .i64 rn] 68)).trans (hb5.mono (by simp; omega)))
          have hw5 : w.heap.size + 1 + 1 < w5.heap.size := hown5.lt
          have HP5 := Lib.hid hp5
          have hown5' := (hown5.setCell (a := ⟨w.heap.size + 1, 0, none⟩) (by simp) (.int .i64 ve))
          clear hp5 hbox hown g0 g1 g2 g3 g4 g5 g6 g7 g8 g9 hb5 HE HB HP
          generalize hent : GA.entB ⟨ve, vs, qe, qs, nm, gn, sz, sm, rc, rn⟩ = ent at *
          have HLR := Lib.hid (HL.out.trans (congrArg (· && decide (es.length ≤ 24)) HR'.out))
          clear HL
          have HBend : ∀ w', Below (w.heap.size + 1) w5 w' → Below w.heap.size w w' := fun w' h => ((Below.refl w.heap.size w).alloc (Nat.le_refl _) _).trans ((HB5.out.trans h).mono (by omega))
          have HX := Lib.hid HBend
          clear HBend
          cases ent
          · have hl : GA.logB te ts hs es = false := by rw [HLR.out]; simp
            clear HLR
            have HLF := Lib.hid hl
            clear hl
            go_wp2_with fail
            go_ret
            exact ⟨by rw [HLF.out]; rfl, HX.out _ (Below.refl _ _)⟩
          by_cases e1 : qe = pe ∧ qs = ps
          · obtain ⟨rfl, rfl⟩ := e1
            have hlr := HLR.out
            simp only [true_and, and_self, decide_true, Bool.true_and] at hlr
            have HLS := Lib.hid hlr
            clear hlr HLR
            cases gn
            · have hnn := nhas_add HN.out nm.data.toList (.lit (.bool true))
              have hst : GA.stepN n1 ⟨ve, vs, qe, qs, nm, false, sz, sm, rc, rn⟩ = GA.addN n1 nm.data.toList := rfl
              have hsize := hnn.size
              have HNN := Lib.hid hnn
              clear hnn
              rw [hst] at HLS
              go_wp2_with (first
                | (at_mapUpdate; refine wpList_mapUpdate_own _ rfl _ _ _ 243 rfl 9 4 law9 Tryz.underlying243 (plainElem (H := Unit) Tryz.prog 4) (w.heap.size + 1 + 1) (hn + k) D rfl (hown5'.setCell (by simp) _) (by unfold maxLen; omega) _ _ _ rfl rfl hkey _ [] (plainElem_bool Tryz.underlying4 true) ?_; intro w6 hown6 hgrow6)
                | (at_len; refine wpList_len_own _ rfl _ 243 rfl 9 4 Tryz.underlying243 _ (w.heap.size + 1 + 1) (hn + k + 1) _ rfl hown6 ?_)
                | go_in)
              · have hgt : 16 < (GA.addN n1 nm.data.toList).length := by rw [← hsize]; omega
                have hl : GA.logB te ts hs es = false := by
                  rw [HLS.out]
                  have : ¬ (GA.addN n1 nm.data.toList).length ≤ 16 := by omega
                  simp [this]
                have HLF := Lib.hid hl
                clear hl
                go_ret
                exact ⟨by rw [HLF.out]; rfl, HX.out _ ((((Below.refl _ _).setCell (by simp) _).setCell (by simp) _).grown hgrow6 (by simp; omega) (fun j hj => by cases hj; omega))⟩
              · have hle : (GA.addN n1 nm.data.toList).length ≤ 16 := by rw [← hsize]; omega
                refine ⟨⟨k + 1, ve, vs, GA.addN n1 nm.data.toList, hkm, by go_num, ?_, Lib.hid ⟨_, hown6, HNN.out⟩, ?_, ?_⟩, by simp [RowKit.intOf]; omega⟩
                · refine Lib.hid ((hgrow6.block _ (by simp; omega) (by simp)).trans ?_)
                  have := Lib.heap_setCell_same (i := 1) (Lib.heap_setCell_same (i := 0) HP5.out (.int .i64 ve)) (.int .i64 vs)
                  simpa using this
                · exact Lib.hid (HB5.out.trans ((((Below.refl _ _).setCell (by simp) _).setCell (by simp) _).grown hgrow6 (by simp; omega) (fun j hj => by cases hj; omega)))
                · have := HR'.out
                  rw [hst] at this
                  simp only [true_and, and_self, decide_true, Bool.true_and, hle] at this
                  exact Lib.hid this
            · have hnn := nhas_del HN.out nm.data.toList
              have hst : GA.stepN n1 ⟨ve, vs, qe, qs, nm, true, sz, sm, rc, rn⟩ = GA.delN n1 nm.data.toList := rfl
              have hsize := hnn.size
              have HNN := Lib.hid hnn
              clear hnn
              rw [hst] at HLS
              go_wp2_with (first
                | (at_delete; refine wpList_delete_own _ rfl _ _ 243 9 rfl 4 law9 Tryz.underlying243 (plainElem (H := Unit) Tryz.prog 4) (w.heap.size + 1 + 1) (hn + k) D rfl (hown5'.setCell (by simp) _) _ _ rfl hkey ?_; intro w6 hown6 hturn6)
                | (at_len; refine wpList_len_own _ rfl _ 243 rfl 9 4 Tryz.underlying243 _ (w.heap.size + 1 + 1) (hn + k) _ rfl hown6 ?_)
                | go_in)
              · have hgt : 16 < (GA.delN n1 nm.data.toList).length := by rw [← hsize]; omega
                have hl : GA.logB te ts hs es = false := by
                  rw [HLS.out]
                  have : ¬ (GA.delN n1 nm.data.toList).length ≤ 16 := by omega
                  simp [this]
                have HLF := Lib.hid hl
                clear hl
                go_ret
                exact ⟨by rw [HLF.out]; rfl, HX.out _ ((((Below.refl _ _).setCell (by simp) _).setCell (by simp) _).grown hturn6.grown (by simp; omega) (fun j hj => by cases hj; omega))⟩
              · have hle : (GA.delN n1 nm.data.toList).length ≤ 16 := by rw [← hsize]; omega
                refine ⟨⟨k + 1, ve, vs, GA.delN n1 nm.data.toList, hkm, by go_num, ?_, Lib.hid ⟨_, hown6.mono (by omega), HNN.out⟩, ?_, ?_⟩, by simp [RowKit.intOf]; omega⟩
                · refine Lib.hid ((hturn6.grown.block _ (by simp; omega) (by simp)).trans ?_)
                  have := Lib.heap_setCell_same (i := 1) (Lib.heap_setCell_same (i := 0) HP5.out (.int .i64 ve)) (.int .i64 vs)
                  simpa using this
                · exact Lib.hid (HB5.out.trans ((((Below.refl _ _).setCell (by simp) _).setCell (by simp) _).grown hturn6.grown (by simp; omega) (fun j hj => by cases hj; omega)))
                · have := HR'.out
                  rw [hst] at this
                  simp only [true_and, and_self, decide_true, Bool.true_and, hle] at this
                  exact Lib.hid this
          · have hl : GA.logB te ts hs es = false := by rw [HLR.out]; simp [e1]
            have HLF := Lib.hid hl
            clear HLR hl
            have hbq : (Bool.and (qe == pe) (qs == ps)) = false := by
              cases hh : (Bool.and (qe == pe) (qs == ps))
              · rfl
              · exfalso; apply e1; simpa using hh
            go_wp2_with fail
            all_goals (go_ret; exact ⟨by rw [HLF.out]; rfl, HX.out _ (Below.refl _ _)⟩)
        · have : k = es.length := by omega
          subst this
          have hl : GA.logB te ts hs es = decide (es.length ≤ 24) := by rw [HL.out, HR.out, List.drop_length]; simp [GA.logR]
          have HLF := Lib.hid hl
          clear HL HR hl
          have s0 := (HB.out.cell (p := ⟨w.heap.size, 8, none⟩) (by show w.heap.size < w.heap.size + 1; omega)).trans (Lib.cell_of_heap (heap_alloc_new w _) 8)
          simp at s0
          go_wp2_with fail
          go_ret
          refine ⟨?_, ((Below.refl w.heap.size w).alloc (Nat.le_refl _) _).trans (HB.out.mono (by omega))⟩
          rw [HLF.out]
          have : decide ((es.length : Int) ≤ 24) = decide (es.length ≤ 24) := by rw [decide_eq_decide]; omega
          rw [← this]
          rfl
end Go.Proofs
namespace Go.Proofs
open Go.Shelf
def Tryz.lays213_ren : Go.Shelf.Ren := ⟨fun | 213 => 248 | 265 => 256 | n => n, fun | 9 => 9 | 3 => 3 | n => n, fun | n => n⟩
theorem Tryz.lays213 : Go.Proofs.Lays.n213 Tryz.prog Tryz.lays213_ren := {
  mixed := by kernel_rfl
  f213 := Tryz.func248.trans (congrArg some (by kernel_rfl))
  f265 := Tryz.func256.trans (congrArg some (by kernel_rfl))
  t3 := Tryz.underlying3
  a3 := Tryz.isAgg3
  z3 := Tryz.sizeOf3
  v3 := Tryz.zeroValue3
  t9 := Tryz.underlying9
  a9 := Tryz.isAgg9
  z9 := Tryz.sizeOf9
  v9 := Tryz.zeroValue9 }
open Go.RowKit in
/-- internal/bytealg.CompareString (what strings.Compare calls): IT RETURNS 'Lib.compareBytes a b'; the world is as it was. (LAID: no walk: one application.) -/
theorem Tryz.bytealg_CompareString (a b : ByteArray) (w : World) :
    Calls Tryz.prog 248 #[.string a, .string b] w fun e w' => e = .returned (.int .i64 (Lib.compareBytes a.data.toList b.data.toList)) ∧ w' = w := Any.bytealg_CompareString Tryz.lays213 a b w
def Tryz.lays106_ren : Go.Shelf.Ren := ⟨fun | 106 => 225 | 213 => 248 | 265 => 256 | n => n, fun | 9 => 9 | 3 => 3 | n => n, fun | n => n⟩
theorem Tryz.lays106 : Go.Proofs.Lays.n106 Tryz.prog Tryz.lays106_ren := {
  mixed := by kernel_rfl
  f106 := Tryz.func225.trans (congrArg some (by kernel_rfl))
  f213 := Tryz.func248.trans (congrArg some (by kernel_rfl))
  f265 := Tryz.func256.trans (congrArg some (by kernel_rfl))
  t3 := Tryz.underlying3
  a3 := Tryz.isAgg3
  z3 := Tryz.sizeOf3
  v3 := Tryz.zeroValue3
  t9 := Tryz.underlying9
  a9 := Tryz.isAgg9
  z9 := Tryz.sizeOf9
  v9 := Tryz.zeroValue9 }
open Go.RowKit in
/-- strings.Compare: "Compare returns an integer comparing two strings lexicographically. The result will be 0 if a == b, -1 if a < b, and +1 if a > b.": IT RETURNS 'Lib.compareBytes a b'; the world is as it was. (LAID: no walk: one application.) -/
theorem Tryz.strings_Compare (a b : ByteArray) (w : World) :
    Calls Tryz.prog 225 #[.string a, .string b] w fun e w' => e = .returned (.int .i64 (Lib.compareBytes a.data.toList b.data.toList)) ∧ w' = w := Any.strings_Compare Tryz.lays106 a b w
end Go.Proofs
namespace Go.Proofs
open Go.Shelf Go.RowKit Go.Lib Go.Ae
set_option linter.unusedSimpArgs false
set_option linter.unusedVariables false
theorem compareBytes_eq : ∀ a b : List UInt8, Lib.compareBytes a b = if a = b then 0 else if Op.bytesLess a b then -1 else 1
  | [], [] => by simp [Lib.compareBytes]
  | [], b :: y => by simp [Lib.compareBytes, Op.bytesLess]
  | a :: x, [] => by simp [Lib.compareBytes, Op.bytesLess]
  | a :: x, b :: y => by
    rw [Lib.compareBytes, compareBytes_eq x y]
    simp only [Op.bytesLess]
    by_cases h1 : a < b
    · have h3 : ¬ a = b := fun h => by subst h; exact UInt8.lt_irrefl _ h1
      simp [h1, h3]
    · by_cases h2 : b < a
      · have h3 : ¬ a = b := fun h => by subst h; exact UInt8.lt_irrefl _ h2
        simp [h1, h2, h3]
      · have h3 : a = b := by
          rw [UInt8.lt_iff_toNat_lt] at h1 h2
          exact UInt8.toNat_inj.1 (by omega)
        subst h3
        simp [h1]
theorem cmpK (a b : ByteArray) (w : World) : Calls Tryz.prog 225 #[.string a, .string b] w fun e w' => e = .returned (.int .i64 (GA.cmpN a b)) ∧ Below w.heap.size w w' := by
  refine (Tryz.strings_Compare a b w).mono ?_
  rintro e w' ⟨rfl, rfl⟩
  refine ⟨?_, Below.refl _ _⟩
  rw [compareBytes_eq]; rfl
end Go.Proofs
namespace Go.Ae.GA
open Go.RowKit
theorem natCmp_ok {P : Program} {f : Nat} {args : List AV} {E : List Heap} {v : AV} {bs : List Blk} (hc : ∀ (a b : ByteArray) (w : World), Calls P f #[.string a, .string b] w fun e w' => e = .returned (.int .i64 (cmpN a b)) ∧ Below w.heap.size w w')
    (h : natCmp args = some (v, bs)) : CallOk P f args E ⟨v, bs, E⟩ := by
  unfold natCmp at h
  split at h
  · rename_i a b
    cases h
    refine callOk_int fun w R g cargs hR hv => ?_
    obtain ⟨x, y, rfl, hx, hy⟩ := two_args hv
    rw [hx.str_inv, hy.str_inv]
    exact hc a b w
  · cases h
end Go.Ae.GA
