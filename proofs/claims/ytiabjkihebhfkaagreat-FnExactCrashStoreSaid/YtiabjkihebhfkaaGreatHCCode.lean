/- The code of the functions, for the evaluator. -/
import Derived.Test.YtiabjkihebhfkaaGreatHCCodeA
namespace Go.Ae.GA.B
def F128 : F := ⟨1, 11, [.t 2],
 .seq (.reg [⟨(some 1), .box (.t 0), none, 0, 0, []⟩,
   ⟨(some 2), .mv (.k (.bool false)), none, 256, 1, []⟩])
 (.seq (.reg [⟨(some 3), .faddr 0 (.t 1), none, 65536, 0, []⟩,
   ⟨(some 4), .load 1 false (.t 3), none, 65792, 1, []⟩,
   ⟨(some 5), .call 204 [(.t 4)] true, none, 66048, 2, []⟩,
   ⟨(some 6), .mv (.t 5), none, 66304, 3, []⟩,
   ⟨(some 7), .faddr 1 (.t 1), (some (some 6, true)), 66560, 4, []⟩,
   ⟨(some 8), .load 1 false (.t 7), (some (some 6, true)), 66816, 5, []⟩,
   ⟨(some 9), .call 204 [(.t 8)] true, (some (some 6, true)), 67072, 6, []⟩,
   ⟨(some 10), .pick (.t 6) (.t 9) (.k (.bool false)), none, 67328, 7, []⟩,
   ⟨(some 2), .mv (.t 10), none, 67584, 8, []⟩])
 (.ret))⟩
def F129 : F := ⟨1, 21, [.t 2],
 .seq (.reg [⟨(some 2), .nil0 false 12, none, 0, 0, []⟩])
 (.seq (.reg [⟨(some 5), .bslice false 12 [(.int .i64 0), (.int .i64 0), (.int .i64 0), (.int .i64 0), (.int .i64 0), (.int .i64 0), (.nil true 5), (.nil true 4), (.nil true 10), (.int .i64 0), (.int .i64 0), (.nil true 6)] 0 [], none, 65536, 0, []⟩,
   ⟨(some 3), .mv (.t 5), none, 65792, 1, []⟩])
 (.seq (.seq (.reg [⟨(some 4), .mv (.k (.int .i64 0)), none, 131072, 0, []⟩])
 (.block 0 (.loop [0, 3, 4] [0, 65536]
  (.seq (.seq (.reg [⟨(some 6), .mv (.t 4), none, 196608, 0, []⟩,
    ⟨(some 7), .mv (.t 0), none, 196864, 1, []⟩,
    ⟨(some 8), .len false (.t 7), none, 197120, 2, []⟩,
    ⟨(some 9), .bin .lss (.t 6) (.t 8), none, 197376, 3, []⟩])
  (.cond (.t 9)
   (.skip)
   (.exit 0)))
  (.seq (.block 1 (.reg [⟨(some 12), .mv (.t 3), none, 327680, 0, []⟩,
    ⟨(some 13), .mv (.t 0), none, 327936, 1, []⟩,
    ⟨(some 14), .mv (.t 4), none, 328192, 2, []⟩,
    ⟨(some 15), .iaddr 12 (.t 13) (.t 14), none, 328448, 3, []⟩,
    ⟨(some 16), .load 12 true (.t 15), none, 328704, 4, []⟩,
    ⟨(some 17), .call 59 [(.t 16)] false, none, 328960, 5, []⟩,
    ⟨(some 18), .bsm false 12 [(.int .i64 0), (.int .i64 0), (.int .i64 0), (.int .i64 0), (.int .i64 0), (.int .i64 0), (.nil true 5), (.nil true 4), (.nil true 10), (.int .i64 0), (.int .i64 0), (.nil true 6)] 1 [(0, (.t 17))], none, 329216, 6, []⟩,
    ⟨(some 19), .apm false 12 160 (.t 12) (.t 18), none, 329472, 7, []⟩,
    ⟨(some 3), .mv (.t 19), none, 329728, 8, []⟩]))
  (.reg [⟨(some 10), .mv (.t 4), none, 262144, 0, []⟩,
    ⟨(some 11), .bin .add (.t 10) (.k (.int .i64 1)), none, 262400, 1, []⟩,
    ⟨(some 4), .mv (.t 11), none, 262656, 2, []⟩]))))))
 (.seq (.reg [⟨(some 20), .mv (.t 3), none, 393216, 0, []⟩,
   ⟨(some 2), .mv (.t 20), none, 393472, 1, []⟩])
 (.ret))))⟩
def F130 : F := ⟨1, 23, [.t 2],
 .seq (.reg [⟨(some 2), .nil0 false 12, none, 0, 0, []⟩])
 (.seq (.reg [⟨(some 5), .mv (.t 0), none, 65536, 0, []⟩,
   ⟨(some 6), .len false (.t 5), none, 65792, 1, []⟩,
   ⟨(some 7), .mksl false 12 160 [(.int .i64 0), (.int .i64 0), (.int .i64 0), (.int .i64 0), (.int .i64 0), (.int .i64 0), (.nil true 5), (.nil true 4), (.nil true 10), (.int .i64 0), (.int .i64 0), (.nil true 6)] (.t 6) (.t 6), none, 66048, 2, []⟩,
   ⟨(some 3), .mv (.t 7), none, 66304, 3, []⟩])
 (.seq (.seq (.reg [⟨(some 4), .mv (.k (.int .i64 0)), none, 131072, 0, []⟩])
 (.block 0 (.loop [0, 3, 4] [0, 66048]
  (.seq (.seq (.reg [⟨(some 8), .mv (.t 4), none, 196608, 0, []⟩,
    ⟨(some 9), .mv (.t 0), none, 196864, 1, []⟩,
    ⟨(some 10), .len false (.t 9), none, 197120, 2, []⟩,
    ⟨(some 11), .bin .lss (.t 8) (.t 10), none, 197376, 3, []⟩])
  (.cond (.t 11)
   (.skip)
   (.exit 0)))
  (.seq (.block 1 (.reg [⟨(some 14), .mv (.t 3), none, 327680, 0, []⟩,
    ⟨(some 15), .mv (.t 4), none, 327936, 1, []⟩,
    ⟨(some 16), .mv (.t 0), none, 328192, 2, []⟩,
    ⟨(some 17), .mv (.t 4), none, 328448, 3, []⟩,
    ⟨(some 18), .iaddr 12 (.t 16) (.t 17), none, 328704, 4, []⟩,
    ⟨(some 19), .load 12 true (.t 18), none, 328960, 5, []⟩,
    ⟨(some 20), .call 14 [(.t 19)] false, none, 329216, 6, []⟩,
    ⟨(some 21), .iaddr 12 (.t 14) (.t 15), none, 329472, 7, []⟩,
    ⟨none, .stm 12 (.t 21) (.t 20), none, 329728, 8, []⟩]))
  (.reg [⟨(some 12), .mv (.t 4), none, 262144, 0, []⟩,
    ⟨(some 13), .bin .add (.t 12) (.k (.int .i64 1)), none, 262400, 1, []⟩,
    ⟨(some 4), .mv (.t 13), none, 262656, 2, []⟩]))))))
 (.seq (.reg [⟨(some 22), .mv (.t 3), none, 393216, 0, []⟩,
   ⟨(some 2), .mv (.t 22), none, 393472, 1, []⟩])
 (.ret))))⟩
def F131 : F := ⟨1, 11, [.t 2],
 .seq (.reg [⟨(some 1), .box (.t 0), none, 0, 0, []⟩,
   ⟨(some 2), .mv (.k (.bool false)), none, 256, 1, []⟩])
 (.seq (.reg [⟨(some 3), .faddr 0 (.t 1), none, 65536, 0, []⟩,
   ⟨(some 4), .load 1 false (.t 3), none, 65792, 1, []⟩,
   ⟨(some 5), .call 205 [(.t 4)] true, none, 66048, 2, []⟩,
   ⟨(some 6), .mv (.t 5), none, 66304, 3, []⟩,
   ⟨(some 7), .faddr 1 (.t 1), (some (some 6, true)), 66560, 4, []⟩,
   ⟨(some 8), .load 1 false (.t 7), (some (some 6, true)), 66816, 5, []⟩,
   ⟨(some 9), .call 205 [(.t 8)] true, (some (some 6, true)), 67072, 6, []⟩,
   ⟨(some 10), .pick (.t 6) (.t 9) (.k (.bool false)), none, 67328, 7, []⟩,
   ⟨(some 2), .mv (.t 10), none, 67584, 8, []⟩])
 (.ret))⟩
def F132 : F := ⟨1, 19, [.t 2],
 .seq (.reg [⟨(some 2), .nil0 false 12, none, 0, 0, []⟩])
 (.seq (.reg [⟨(some 3), .nil0 false 12, none, 65536, 0, []⟩])
 (.seq (.seq (.reg [⟨(some 6), .mv (.t 0), none, 131072, 0, []⟩,
   ⟨(some 7), .len false (.t 6), none, 131328, 1, []⟩,
   ⟨(some 8), .mv (.k (.int .i64 0)), none, 131584, 2, []⟩])
 (.block 0 (.loop [3, 6, 7, 8] [0, 65536]
  (.seq (.reg [⟨(some 9), .bin .lss (.t 8) (.t 7), none, 196608, 0, []⟩])
  (.seq (.cond (.t 9)
   (.skip)
   (.exit 0))
  (.seq (.block 1 (.seq (.reg [⟨(some 10), .iaddr 12 (.t 6) (.t 8), none, 262144, 0, []⟩,
    ⟨(some 11), .load 12 true (.t 10), none, 262400, 1, []⟩,
    ⟨(some 5), .alloc [(.int .i64 0), (.int .i64 0), (.int .i64 0), (.int .i64 0), (.int .i64 0), (.int .i64 0), (.nil true 5), (.nil true 4), (.nil true 10), (.int .i64 0), (.int .i64 0), (.nil true 6)], none, 262656, 2, []⟩,
    ⟨none, .stm 12 (.t 5) (.t 11), none, 262912, 3, []⟩])
  (.reg [⟨(some 12), .mv (.t 3), none, 327680, 0, []⟩,
    ⟨(some 13), .load 12 true (.t 5), none, 327936, 1, []⟩,
    ⟨(some 14), .call 147 [(.t 13)] false, none, 328192, 2, []⟩,
    ⟨(some 15), .bsm false 12 [(.int .i64 0), (.int .i64 0), (.int .i64 0), (.int .i64 0), (.int .i64 0), (.int .i64 0), (.nil true 5), (.nil true 4), (.nil true 10), (.int .i64 0), (.int .i64 0), (.nil true 6)] 1 [(0, (.t 14))], none, 328448, 3, []⟩,
    ⟨(some 16), .apm false 12 160 (.t 12) (.t 15), none, 328704, 4, []⟩,
    ⟨(some 3), .mv (.t 16), none, 328960, 5, []⟩])))
  (.reg [⟨(some 17), .bin .add (.t 8) (.k (.int .i64 1)), none, 393216, 0, []⟩,
    ⟨(some 8), .mv (.t 17), none, 393472, 1, []⟩])))))))
 (.seq (.reg [⟨(some 18), .mv (.t 3), none, 458752, 0, []⟩,
   ⟨(some 2), .mv (.t 18), none, 459008, 1, []⟩])
 (.ret))))⟩
def F133 : F := ⟨2, 27, [.t 4],
 .seq (.reg [⟨(some 4), .mv (.k (.bool false)), none, 0, 0, []⟩])
 (.seq (.seq (.reg [⟨(some 6), .mv (.t 0), none, 65536, 0, []⟩,
   ⟨(some 7), .len false (.t 6), none, 65792, 1, []⟩,
   ⟨(some 8), .mv (.t 1), none, 66048, 2, []⟩,
   ⟨(some 9), .len false (.t 8), none, 66304, 3, []⟩,
   ⟨(some 10), .bin .neq (.t 7) (.t 9), none, 66560, 4, []⟩])
 (.cond (.t 10)
  (.seq (.reg [⟨(some 4), .mv (.k (.bool false)), none, 131072, 0, []⟩])
  (.ret))
  (.skip)))
 (.seq (.seq (.reg [⟨(some 5), .mv (.k (.int .i64 0)), none, 196608, 0, []⟩])
 (.block 0 (.loop [0, 1, 5] []
  (.seq (.seq (.reg [⟨(some 11), .mv (.t 5), none, 262144, 0, []⟩,
    ⟨(some 12), .mv (.t 0), none, 262400, 1, []⟩,
    ⟨(some 13), .len false (.t 12), none, 262656, 2, []⟩,
    ⟨(some 14), .bin .lss (.t 11) (.t 13), none, 262912, 3, []⟩])
  (.cond (.t 14)
   (.skip)
   (.exit 0)))
  (.seq (.block 1 (.seq (.reg [⟨(some 17), .mv (.t 0), none, 393216, 0, []⟩,
    ⟨(some 18), .mv (.t 5), none, 393472, 1, []⟩,
    ⟨(some 19), .iaddr 12 (.t 17) (.t 18), none, 393728, 2, []⟩,
    ⟨(some 20), .load 12 true (.t 19), none, 393984, 3, []⟩,
    ⟨(some 21), .mv (.t 1), none, 394240, 4, []⟩,
    ⟨(some 22), .mv (.t 5), none, 394496, 5, []⟩,
    ⟨(some 23), .iaddr 12 (.t 21) (.t 22), none, 394752, 6, []⟩,
    ⟨(some 24), .load 12 true (.t 23), none, 395008, 7, []⟩,
    ⟨(some 25), .call 16 [(.t 20), (.t 24)] true, none, 395264, 8, []⟩,
    ⟨(some 26), .not (.t 25), none, 395520, 9, []⟩])
  (.cond (.t 26)
   (.seq (.reg [⟨(some 4), .mv (.k (.bool false)), none, 458752, 0, []⟩])
   (.ret))
   (.skip))))
  (.reg [⟨(some 15), .mv (.t 5), none, 327680, 0, []⟩,
    ⟨(some 16), .bin .add (.t 15) (.k (.int .i64 1)), none, 327936, 1, []⟩,
    ⟨(some 5), .mv (.t 16), none, 328192, 2, []⟩]))))))
 (.seq (.reg [⟨(some 4), .mv (.k (.bool true)), none, 524288, 0, []⟩])
 (.ret))))⟩
def F134 : F := ⟨2, 103, [.t 4],
 .seq (.reg [⟨(some 4), .mv (.k (.int .i64 0)), none, 0, 0, []⟩])
 (.seq (.seq (.reg [⟨(some 5), .mv (.k (.int .i64 0)), none, 65536, 0, []⟩])
 (.block 0 (.loop [0, 1, 5] []
  (.seq (.seq (.reg [⟨(some 6), .mv (.t 5), none, 131072, 0, []⟩,
    ⟨(some 7), .mv (.t 0), none, 131328, 1, []⟩,
    ⟨(some 8), .len false (.t 7), none, 131584, 2, []⟩,
    ⟨(some 9), .bin .lss (.t 6) (.t 8), none, 131840, 3, []⟩])
  (.cond (.t 9)
   (.skip)
   (.exit 0)))
  (.seq (.block 1 (.seq (.reg [⟨(some 12), .mv (.t 0), none, 262144, 0, []⟩,
    ⟨(some 13), .mv (.t 5), none, 262400, 1, []⟩,
    ⟨(some 14), .mv (.t 1), none, 262656, 2, []⟩,
    ⟨(some 15), .iaddr 12 (.t 12) (.t 13), none, 262912, 3, []⟩,
    ⟨(some 16), .faddr 0 (.t 15), none, 263168, 4, []⟩,
    ⟨(some 17), .faddr 0 (.t 16), none, 263424, 5, []⟩,
    ⟨none, .stm 1 (.t 17) (.t 14), none, 263680, 6, []⟩])
  (.seq (.reg [⟨(some 18), .mv (.t 1), none, 327680, 0, []⟩,
    ⟨(some 19), .bin .add (.t 18) (.k (.int .i64 1)), none, 327936, 1, []⟩,
    ⟨(some 1), .mv (.t 19), none, 328192, 2, []⟩])
  (.seq (.reg [⟨(some 20), .mv (.t 0), none, 393216, 0, []⟩,
    ⟨(some 21), .mv (.t 5), none, 393472, 1, []⟩,
    ⟨(some 22), .mv (.t 1), none, 393728, 2, []⟩,
    ⟨(some 23), .iaddr 12 (.t 20) (.t 21), none, 393984, 3, []⟩,
    ⟨(some 24), .faddr 0 (.t 23), none, 394240, 4, []⟩,
    ⟨(some 25), .faddr 1 (.t 24), none, 394496, 5, []⟩,
    ⟨none, .stm 1 (.t 25) (.t 22), none, 394752, 6, []⟩])
  (.seq (.reg [⟨(some 26), .mv (.t 1), none, 458752, 0, []⟩,
    ⟨(some 27), .bin .add (.t 26) (.k (.int .i64 1)), none, 459008, 1, []⟩,
    ⟨(some 1), .mv (.t 27), none, 459264, 2, []⟩])
  (.seq (.reg [⟨(some 28), .mv (.t 0), none, 524288, 0, []⟩,
    ⟨(some 29), .mv (.t 5), none, 524544, 1, []⟩,
    ⟨(some 30), .mv (.t 1), none, 524800, 2, []⟩,
    ⟨(some 31), .iaddr 12 (.t 28) (.t 29), none, 525056, 3, []⟩,
    ⟨(some 32), .faddr 2 (.t 31), none, 525312, 4, []⟩,
    ⟨none, .stm 1 (.t 32) (.t 30), none, 525568, 5, []⟩])
  (.seq (.reg [⟨(some 33), .mv (.t 1), none, 589824, 0, []⟩,
    ⟨(some 34), .bin .add (.t 33) (.k (.int .i64 1)), none, 590080, 1, []⟩,
    ⟨(some 1), .mv (.t 34), none, 590336, 2, []⟩])
  (.seq (.reg [⟨(some 35), .mv (.t 0), none, 655360, 0, []⟩,
    ⟨(some 36), .mv (.t 5), none, 655616, 1, []⟩,
    ⟨(some 37), .mv (.t 1), none, 655872, 2, []⟩,
    ⟨(some 38), .iaddr 12 (.t 35) (.t 36), none, 656128, 3, []⟩,
    ⟨(some 39), .faddr 3 (.t 38), none, 656384, 4, []⟩,
    ⟨none, .stm 1 (.t 39) (.t 37), none, 656640, 5, []⟩])
  (.seq (.reg [⟨(some 40), .mv (.t 1), none, 720896, 0, []⟩,
    ⟨(some 41), .bin .add (.t 40) (.k (.int .i64 1)), none, 721152, 1, []⟩,
    ⟨(some 1), .mv (.t 41), none, 721408, 2, []⟩])
  (.seq (.reg [⟨(some 42), .mv (.t 0), none, 786432, 0, []⟩,
    ⟨(some 43), .mv (.t 5), none, 786688, 1, []⟩,
    ⟨(some 44), .mv (.t 1), none, 786944, 2, []⟩,
    ⟨(some 45), .iaddr 12 (.t 42) (.t 43), none, 787200, 3, []⟩,
    ⟨(some 46), .faddr 4 (.t 45), none, 787456, 4, []⟩,
    ⟨(some 47), .faddr 0 (.t 46), none, 787712, 5, []⟩,
    ⟨none, .stm 1 (.t 47) (.t 44), none, 787968, 6, []⟩])
  (.seq (.reg [⟨(some 48), .mv (.t 1), none, 851968, 0, []⟩,
    ⟨(some 49), .bin .add (.t 48) (.k (.int .i64 1)), none, 852224, 1, []⟩,
    ⟨(some 1), .mv (.t 49), none, 852480, 2, []⟩])
  (.seq (.reg [⟨(some 50), .mv (.t 0), none, 917504, 0, []⟩,
    ⟨(some 51), .mv (.t 5), none, 917760, 1, []⟩,
    ⟨(some 52), .mv (.t 1), none, 918016, 2, []⟩,
    ⟨(some 53), .iaddr 12 (.t 50) (.t 51), none, 918272, 3, []⟩,
    ⟨(some 54), .faddr 4 (.t 53), none, 918528, 4, []⟩,
    ⟨(some 55), .faddr 1 (.t 54), none, 918784, 5, []⟩,
    ⟨none, .stm 1 (.t 55) (.t 52), none, 919040, 6, []⟩])
  (.seq (.reg [⟨(some 56), .mv (.t 1), none, 983040, 0, []⟩,
    ⟨(some 57), .bin .add (.t 56) (.k (.int .i64 1)), none, 983296, 1, []⟩,
    ⟨(some 1), .mv (.t 57), none, 983552, 2, []⟩])
  (.seq (.reg [⟨(some 58), .mv (.t 0), none, 1048576, 0, []⟩,
    ⟨(some 59), .mv (.t 5), none, 1048832, 1, []⟩,
    ⟨(some 60), .iaddr 12 (.t 58) (.t 59), none, 1049088, 2, []⟩,
    ⟨(some 61), .faddr 6 (.t 60), none, 1049344, 3, []⟩,
    ⟨(some 62), .load 1 false (.t 61), none, 1049600, 4, []⟩,
    ⟨(some 63), .mv (.t 1), none, 1049856, 5, []⟩,
    ⟨(some 64), .call 74 [(.t 62), (.t 63)] true, none, 1050112, 6, []⟩,
    ⟨(some 1), .mv (.t 64), none, 1050368, 7, []⟩])
  (.seq (.reg [⟨(some 65), .mv (.t 0), none, 1114112, 0, []⟩,
    ⟨(some 66), .mv (.t 5), none, 1114368, 1, []⟩,
    ⟨(some 67), .iaddr 12 (.t 65) (.t 66), none, 1114624, 2, []⟩,
    ⟨(some 68), .faddr 7 (.t 67), none, 1114880, 3, []⟩,
    ⟨(some 69), .load 1 false (.t 68), none, 1115136, 4, []⟩,
    ⟨(some 70), .mv (.t 1), none, 1115392, 5, []⟩,
    ⟨(some 71), .call 75 [(.t 69), (.t 70)] true, none, 1115648, 6, []⟩,
    ⟨(some 1), .mv (.t 71), none, 1115904, 7, []⟩])
  (.seq (.reg [⟨(some 72), .mv (.t 0), none, 1179648, 0, []⟩,
    ⟨(some 73), .mv (.t 5), none, 1179904, 1, []⟩,
    ⟨(some 74), .iaddr 12 (.t 72) (.t 73), none, 1180160, 2, []⟩,
    ⟨(some 75), .faddr 8 (.t 74), none, 1180416, 3, []⟩,
    ⟨(some 76), .load 1 false (.t 75), none, 1180672, 4, []⟩,
    ⟨(some 77), .mv (.t 1), none, 1180928, 5, []⟩,
    ⟨(some 78), .call 76 [(.t 76), (.t 77)] true, none, 1181184, 6, []⟩,
    ⟨(some 1), .mv (.t 78), none, 1181440, 7, []⟩])
  (.seq (.reg [⟨(some 79), .mv (.t 0), none, 1245184, 0, []⟩,
    ⟨(some 80), .mv (.t 5), none, 1245440, 1, []⟩,
    ⟨(some 81), .mv (.t 1), none, 1245696, 2, []⟩,
    ⟨(some 82), .iaddr 12 (.t 79) (.t 80), none, 1245952, 3, []⟩,
    ⟨(some 83), .faddr 9 (.t 82), none, 1246208, 4, []⟩,
    ⟨(some 84), .faddr 0 (.t 83), none, 1246464, 5, []⟩,
    ⟨none, .stm 1 (.t 84) (.t 81), none, 1246720, 6, []⟩])
  (.seq (.reg [⟨(some 85), .mv (.t 1), none, 1310720, 0, []⟩,
    ⟨(some 86), .bin .add (.t 85) (.k (.int .i64 1)), none, 1310976, 1, []⟩,
    ⟨(some 1), .mv (.t 86), none, 1311232, 2, []⟩])
  (.seq (.reg [⟨(some 87), .mv (.t 0), none, 1376256, 0, []⟩,
    ⟨(some 88), .mv (.t 5), none, 1376512, 1, []⟩,
    ⟨(some 89), .mv (.t 1), none, 1376768, 2, []⟩,
    ⟨(some 90), .iaddr 12 (.t 87) (.t 88), none, 1377024, 3, []⟩,
    ⟨(some 91), .faddr 9 (.t 90), none, 1377280, 4, []⟩,
    ⟨(some 92), .faddr 1 (.t 91), none, 1377536, 5, []⟩,
    ⟨none, .stm 1 (.t 92) (.t 89), none, 1377792, 6, []⟩])
  (.seq (.reg [⟨(some 93), .mv (.t 1), none, 1441792, 0, []⟩,
    ⟨(some 94), .bin .add (.t 93) (.k (.int .i64 1)), none, 1442048, 1, []⟩,
    ⟨(some 1), .mv (.t 94), none, 1442304, 2, []⟩])
  (.reg [⟨(some 95), .mv (.t 0), none, 1507328, 0, []⟩,
    ⟨(some 96), .mv (.t 5), none, 1507584, 1, []⟩,
    ⟨(some 97), .iaddr 12 (.t 95) (.t 96), none, 1507840, 2, []⟩,
    ⟨(some 98), .faddr 11 (.t 97), none, 1508096, 3, []⟩,
    ⟨(some 99), .load 1 false (.t 98), none, 1508352, 4, []⟩,
    ⟨(some 100), .mv (.t 1), none, 1508608, 5, []⟩,
    ⟨(some 101), .call 77 [(.t 99), (.t 100)] true, none, 1508864, 6, []⟩,
    ⟨(some 1), .mv (.t 101), none, 1509120, 7, []⟩])))))))))))))))))))))
  (.reg [⟨(some 10), .mv (.t 5), none, 196608, 0, []⟩,
    ⟨(some 11), .bin .add (.t 10) (.k (.int .i64 1)), none, 196864, 1, []⟩,
    ⟨(some 5), .mv (.t 11), none, 197120, 2, []⟩]))))))
 (.seq (.reg [⟨(some 102), .mv (.t 1), none, 1572864, 0, []⟩,
   ⟨(some 4), .mv (.t 102), none, 1573120, 1, []⟩])
 (.ret)))⟩
def F135 : F := ⟨2, 127, [.t 4],
 .seq (.reg [⟨(some 4), .mv (.k (.int .i64 0)), none, 0, 0, []⟩])
 (.seq (.seq (.reg [⟨(some 5), .mv (.k (.int .i64 0)), none, 65536, 0, []⟩])
 (.block 0 (.loop [0, 1, 5] []
  (.seq (.seq (.reg [⟨(some 6), .mv (.t 5), none, 131072, 0, []⟩,
    ⟨(some 7), .mv (.t 0), none, 131328, 1, []⟩,
    ⟨(some 8), .len false (.t 7), none, 131584, 2, []⟩,
    ⟨(some 9), .bin .lss (.t 6) (.t 8), none, 131840, 3, []⟩])
  (.cond (.t 9)
   (.skip)
   (.exit 0)))
  (.seq (.block 1 (.seq (.seq (.reg [⟨(some 12), .mv (.t 0), none, 262144, 0, []⟩,
    ⟨(some 13), .mv (.t 5), none, 262400, 1, []⟩,
    ⟨(some 14), .iaddr 12 (.t 12) (.t 13), none, 262656, 2, []⟩,
    ⟨(some 15), .faddr 0 (.t 14), none, 262912, 3, []⟩,
    ⟨(some 16), .faddr 0 (.t 15), none, 263168, 4, []⟩,
    ⟨(some 17), .load 1 false (.t 16), none, 263424, 5, []⟩,
    ⟨(some 18), .mv (.t 1), none, 263680, 6, []⟩,
    ⟨(some 19), .bin .neq (.t 17) (.t 18), none, 263936, 7, []⟩])
  (.cond (.t 19)
   (.seq (.reg [⟨(some 4), .mv (.k (.int .i64 (-1))), none, 327680, 0, []⟩])
   (.ret))
   (.skip)))
  (.seq (.reg [⟨(some 20), .mv (.t 1), none, 393216, 0, []⟩,
    ⟨(some 21), .bin .add (.t 20) (.k (.int .i64 1)), none, 393472, 1, []⟩,
    ⟨(some 1), .mv (.t 21), none, 393728, 2, []⟩])
  (.seq (.seq (.reg [⟨(some 22), .mv (.t 0), none, 458752, 0, []⟩,
    ⟨(some 23), .mv (.t 5), none, 459008, 1, []⟩,
    ⟨(some 24), .iaddr 12 (.t 22) (.t 23), none, 459264, 2, []⟩,
    ⟨(some 25), .faddr 0 (.t 24), none, 459520, 3, []⟩,
    ⟨(some 26), .faddr 1 (.t 25), none, 459776, 4, []⟩,
    ⟨(some 27), .load 1 false (.t 26), none, 460032, 5, []⟩,
    ⟨(some 28), .mv (.t 1), none, 460288, 6, []⟩,
    ⟨(some 29), .bin .neq (.t 27) (.t 28), none, 460544, 7, []⟩])
  (.cond (.t 29)
   (.seq (.reg [⟨(some 4), .mv (.k (.int .i64 (-1))), none, 524288, 0, []⟩])
   (.ret))
   (.skip)))
  (.seq (.reg [⟨(some 30), .mv (.t 1), none, 589824, 0, []⟩,
    ⟨(some 31), .bin .add (.t 30) (.k (.int .i64 1)), none, 590080, 1, []⟩,
    ⟨(some 1), .mv (.t 31), none, 590336, 2, []⟩])
  (.seq (.seq (.reg [⟨(some 32), .mv (.t 0), none, 655360, 0, []⟩,
    ⟨(some 33), .mv (.t 5), none, 655616, 1, []⟩,
    ⟨(some 34), .iaddr 12 (.t 32) (.t 33), none, 655872, 2, []⟩,
    ⟨(some 35), .faddr 2 (.t 34), none, 656128, 3, []⟩,
    ⟨(some 36), .load 1 false (.t 35), none, 656384, 4, []⟩,
    ⟨(some 37), .mv (.t 1), none, 656640, 5, []⟩,
    ⟨(some 38), .bin .neq (.t 36) (.t 37), none, 656896, 6, []⟩])
  (.cond (.t 38)
   (.seq (.reg [⟨(some 4), .mv (.k (.int .i64 (-1))), none, 720896, 0, []⟩])
   (.ret))
   (.skip)))
  (.seq (.reg [⟨(some 39), .mv (.t 1), none, 786432, 0, []⟩,
    ⟨(some 40), .bin .add (.t 39) (.k (.int .i64 1)), none, 786688, 1, []⟩,
    ⟨(some 1), .mv (.t 40), none, 786944, 2, []⟩])
  (.seq (.seq (.reg [⟨(some 41), .mv (.t 0), none, 851968, 0, []⟩,
    ⟨(some 42), .mv (.t 5), none, 852224, 1, []⟩,
    ⟨(some 43), .iaddr 12 (.t 41) (.t 42), none, 852480, 2, []⟩,
    ⟨(some 44), .faddr 3 (.t 43), none, 852736, 3, []⟩,
    ⟨(some 45), .load 1 false (.t 44), none, 852992, 4, []⟩,
    ⟨(some 46), .mv (.t 1), none, 853248, 5, []⟩,
    ⟨(some 47), .bin .neq (.t 45) (.t 46), none, 853504, 6, []⟩])
  (.cond (.t 47)
   (.seq (.reg [⟨(some 4), .mv (.k (.int .i64 (-1))), none, 917504, 0, []⟩])
   (.ret))
   (.skip)))
  (.seq (.reg [⟨(some 48), .mv (.t 1), none, 983040, 0, []⟩,
    ⟨(some 49), .bin .add (.t 48) (.k (.int .i64 1)), none, 983296, 1, []⟩,
    ⟨(some 1), .mv (.t 49), none, 983552, 2, []⟩])
  (.seq (.seq (.reg [⟨(some 50), .mv (.t 0), none, 1048576, 0, []⟩,
    ⟨(some 51), .mv (.t 5), none, 1048832, 1, []⟩,
    ⟨(some 52), .iaddr 12 (.t 50) (.t 51), none, 1049088, 2, []⟩,
    ⟨(some 53), .faddr 4 (.t 52), none, 1049344, 3, []⟩,
    ⟨(some 54), .faddr 0 (.t 53), none, 1049600, 4, []⟩,
    ⟨(some 55), .load 1 false (.t 54), none, 1049856, 5, []⟩,
    ⟨(some 56), .mv (.t 1), none, 1050112, 6, []⟩,
    ⟨(some 57), .bin .neq (.t 55) (.t 56), none, 1050368, 7, []⟩])
  (.cond (.t 57)
   (.seq (.reg [⟨(some 4), .mv (.k (.int .i64 (-1))), none, 1114112, 0, []⟩])
   (.ret))
   (.skip)))
  (.seq (.reg [⟨(some 58), .mv (.t 1), none, 1179648, 0, []⟩,
    ⟨(some 59), .bin .add (.t 58) (.k (.int .i64 1)), none, 1179904, 1, []⟩,
    ⟨(some 1), .mv (.t 59), none, 1180160, 2, []⟩])
  (.seq (.seq (.reg [⟨(some 60), .mv (.t 0), none, 1245184, 0, []⟩,
    ⟨(some 61), .mv (.t 5), none, 1245440, 1, []⟩,
    ⟨(some 62), .iaddr 12 (.t 60) (.t 61), none, 1245696, 2, []⟩,
    ⟨(some 63), .faddr 4 (.t 62), none, 1245952, 3, []⟩,
    ⟨(some 64), .faddr 1 (.t 63), none, 1246208, 4, []⟩,
    ⟨(some 65), .load 1 false (.t 64), none, 1246464, 5, []⟩,
    ⟨(some 66), .mv (.t 1), none, 1246720, 6, []⟩,
    ⟨(some 67), .bin .neq (.t 65) (.t 66), none, 1246976, 7, []⟩])
  (.cond (.t 67)
   (.seq (.reg [⟨(some 4), .mv (.k (.int .i64 (-1))), none, 1310720, 0, []⟩])
   (.ret))
   (.skip)))
  (.seq (.reg [⟨(some 68), .mv (.t 1), none, 1376256, 0, []⟩,
    ⟨(some 69), .bin .add (.t 68) (.k (.int .i64 1)), none, 1376512, 1, []⟩,
    ⟨(some 1), .mv (.t 69), none, 1376768, 2, []⟩])
  (.seq (.reg [⟨(some 70), .mv (.t 0), none, 1441792, 0, []⟩,
    ⟨(some 71), .mv (.t 5), none, 1442048, 1, []⟩,
    ⟨(some 72), .iaddr 12 (.t 70) (.t 71), none, 1442304, 2, []⟩,
    ⟨(some 73), .faddr 6 (.t 72), none, 1442560, 3, []⟩,
    ⟨(some 74), .load 1 false (.t 73), none, 1442816, 4, []⟩,
    ⟨(some 75), .mv (.t 1), none, 1443072, 5, []⟩,
    ⟨(some 76), .call 78 [(.t 74), (.t 75)] true, none, 1443328, 6, []⟩,
    ⟨(some 1), .mv (.t 76), none, 1443584, 7, []⟩])
  (.seq (.seq (.reg [⟨(some 77), .mv (.t 1), none, 1507328, 0, []⟩,
    ⟨(some 78), .bin .lss (.t 77) (.k (.int .i64 0)), none, 1507584, 1, []⟩])
  (.cond (.t 78)
   (.seq (.reg [⟨(some 4), .mv (.k (.int .i64 (-1))), none, 1572864, 0, []⟩])
   (.ret))
   (.skip)))
  (.seq (.reg [⟨(some 79), .mv (.t 0), none, 1638400, 0, []⟩,
    ⟨(some 80), .mv (.t 5), none, 1638656, 1, []⟩,
    ⟨(some 81), .iaddr 12 (.t 79) (.t 80), none, 1638912, 2, []⟩,
    ⟨(some 82), .faddr 7 (.t 81), none, 1639168, 3, []⟩,
    ⟨(some 83), .load 1 false (.t 82), none, 1639424, 4, []⟩,
    ⟨(some 84), .mv (.t 1), none, 1639680, 5, []⟩,
    ⟨(some 85), .call 79 [(.t 83), (.t 84)] true, none, 1639936, 6, []⟩,
    ⟨(some 1), .mv (.t 85), none, 1640192, 7, []⟩])
  (.seq (.seq (.reg [⟨(some 86), .mv (.t 1), none, 1703936, 0, []⟩,
    ⟨(some 87), .bin .lss (.t 86) (.k (.int .i64 0)), none, 1704192, 1, []⟩])
  (.cond (.t 87)
   (.seq (.reg [⟨(some 4), .mv (.k (.int .i64 (-1))), none, 1769472, 0, []⟩])
   (.ret))
   (.skip)))
  (.seq (.reg [⟨(some 88), .mv (.t 0), none, 1835008, 0, []⟩,
    ⟨(some 89), .mv (.t 5), none, 1835264, 1, []⟩,
    ⟨(some 90), .iaddr 12 (.t 88) (.t 89), none, 1835520, 2, []⟩,
    ⟨(some 91), .faddr 8 (.t 90), none, 1835776, 3, []⟩,
    ⟨(some 92), .load 1 false (.t 91), none, 1836032, 4, []⟩,
    ⟨(some 93), .mv (.t 1), none, 1836288, 5, []⟩,
    ⟨(some 94), .call 80 [(.t 92), (.t 93)] true, none, 1836544, 6, []⟩,
    ⟨(some 1), .mv (.t 94), none, 1836800, 7, []⟩])
  (.seq (.seq (.reg [⟨(some 95), .mv (.t 1), none, 1900544, 0, []⟩,
    ⟨(some 96), .bin .lss (.t 95) (.k (.int .i64 0)), none, 1900800, 1, []⟩])
  (.cond (.t 96)
   (.seq (.reg [⟨(some 4), .mv (.k (.int .i64 (-1))), none, 1966080, 0, []⟩])
   (.ret))
   (.skip)))
  (.seq (.seq (.reg [⟨(some 97), .mv (.t 0), none, 2031616, 0, []⟩,
    ⟨(some 98), .mv (.t 5), none, 2031872, 1, []⟩,
    ⟨(some 99), .iaddr 12 (.t 97) (.t 98), none, 2032128, 2, []⟩,
    ⟨(some 100), .faddr 9 (.t 99), none, 2032384, 3, []⟩,
    ⟨(some 101), .faddr 0 (.t 100), none, 2032640, 4, []⟩,
    ⟨(some 102), .load 1 false (.t 101), none, 2032896, 5, []⟩,
    ⟨(some 103), .mv (.t 1), none, 2033152, 6, []⟩,
    ⟨(some 104), .bin .neq (.t 102) (.t 103), none, 2033408, 7, []⟩])
  (.cond (.t 104)
   (.seq (.reg [⟨(some 4), .mv (.k (.int .i64 (-1))), none, 2097152, 0, []⟩])
   (.ret))
   (.skip)))
  (.seq (.reg [⟨(some 105), .mv (.t 1), none, 2162688, 0, []⟩,
    ⟨(some 106), .bin .add (.t 105) (.k (.int .i64 1)), none, 2162944, 1, []⟩,
    ⟨(some 1), .mv (.t 106), none, 2163200, 2, []⟩])
  (.seq (.seq (.reg [⟨(some 107), .mv (.t 0), none, 2228224, 0, []⟩,
    ⟨(some 108), .mv (.t 5), none, 2228480, 1, []⟩,
    ⟨(some 109), .iaddr 12 (.t 107) (.t 108), none, 2228736, 2, []⟩,
    ⟨(some 110), .faddr 9 (.t 109), none, 2228992, 3, []⟩,
    ⟨(some 111), .faddr 1 (.t 110), none, 2229248, 4, []⟩,
    ⟨(some 112), .load 1 false (.t 111), none, 2229504, 5, []⟩,
    ⟨(some 113), .mv (.t 1), none, 2229760, 6, []⟩,
    ⟨(some 114), .bin .neq (.t 112) (.t 113), none, 2230016, 7, []⟩])
  (.cond (.t 114)
   (.seq (.reg [⟨(some 4), .mv (.k (.int .i64 (-1))), none, 2293760, 0, []⟩])
   (.ret))
   (.skip)))
  (.seq (.reg [⟨(some 115), .mv (.t 1), none, 2359296, 0, []⟩,
    ⟨(some 116), .bin .add (.t 115) (.k (.int .i64 1)), none, 2359552, 1, []⟩,
    ⟨(some 1), .mv (.t 116), none, 2359808, 2, []⟩])
  (.seq (.reg [⟨(some 117), .mv (.t 0), none, 2424832, 0, []⟩,
    ⟨(some 118), .mv (.t 5), none, 2425088, 1, []⟩,
    ⟨(some 119), .iaddr 12 (.t 117) (.t 118), none, 2425344, 2, []⟩,
    ⟨(some 120), .faddr 11 (.t 119), none, 2425600, 3, []⟩,
    ⟨(some 121), .load 1 false (.t 120), none, 2425856, 4, []⟩,
    ⟨(some 122), .mv (.t 1), none, 2426112, 5, []⟩,
    ⟨(some 123), .call 81 [(.t 121), (.t 122)] true, none, 2426368, 6, []⟩,
    ⟨(some 1), .mv (.t 123), none, 2426624, 7, []⟩])
  (.seq (.reg [⟨(some 124), .mv (.t 1), none, 2490368, 0, []⟩,
    ⟨(some 125), .bin .lss (.t 124) (.k (.int .i64 0)), none, 2490624, 1, []⟩])
  (.cond (.t 125)
   (.seq (.reg [⟨(some 4), .mv (.k (.int .i64 (-1))), none, 2555904, 0, []⟩])
   (.ret))
   (.skip)))))))))))))))))))))))))))
  (.reg [⟨(some 10), .mv (.t 5), none, 196608, 0, []⟩,
    ⟨(some 11), .bin .add (.t 10) (.k (.int .i64 1)), none, 196864, 1, []⟩,
    ⟨(some 5), .mv (.t 11), none, 197120, 2, []⟩]))))))
 (.seq (.reg [⟨(some 126), .mv (.t 1), none, 2621440, 0, []⟩,
   ⟨(some 4), .mv (.t 126), none, 2621696, 1, []⟩])
 (.ret)))⟩
def F136 : F := ⟨2, 13, [.t 4],
 .seq (.reg [⟨(some 2), .box (.t 0), none, 0, 0, []⟩,
   ⟨(some 4), .mv (.k (.int .i64 0)), none, 256, 1, []⟩])
 (.seq (.reg [⟨(some 5), .mv (.t 1), none, 65536, 0, []⟩,
   ⟨(some 6), .faddr 0 (.t 2), none, 65792, 1, []⟩,
   ⟨(some 7), .load 1 false (.t 6), none, 66048, 2, []⟩,
   ⟨(some 8), .len true (.t 7), none, 66304, 3, []⟩,
   ⟨(some 9), .bin .sub (.t 5) (.t 8), none, 66560, 4, []⟩,
   ⟨(some 1), .mv (.t 9), none, 66816, 5, []⟩])
 (.seq (.seq (.reg [⟨(some 10), .mv (.t 1), none, 131072, 0, []⟩,
   ⟨(some 11), .bin .lss (.t 10) (.k (.int .i64 0)), none, 131328, 1, []⟩])
 (.cond (.t 11)
  (.seq (.reg [⟨(some 4), .mv (.k (.int .i64 (-1))), none, 196608, 0, []⟩])
  (.ret))
  (.skip)))
 (.seq (.reg [⟨(some 12), .mv (.t 1), none, 262144, 0, []⟩,
   ⟨(some 4), .mv (.t 12), none, 262400, 1, []⟩])
 (.ret))))⟩
def F137 : F := ⟨2, 13, [.t 4],
 .seq (.reg [⟨(some 2), .box (.t 0), none, 0, 0, []⟩,
   ⟨(some 4), .mv (.k (.int .i64 0)), none, 256, 1, []⟩])
 (.seq (.reg [⟨(some 5), .mv (.t 1), none, 65536, 0, []⟩,
   ⟨(some 6), .faddr 4 (.t 2), none, 65792, 1, []⟩,
   ⟨(some 7), .load 1 false (.t 6), none, 66048, 2, []⟩,
   ⟨(some 8), .len true (.t 7), none, 66304, 3, []⟩,
   ⟨(some 9), .bin .sub (.t 5) (.t 8), none, 66560, 4, []⟩,
   ⟨(some 1), .mv (.t 9), none, 66816, 5, []⟩])
 (.seq (.seq (.reg [⟨(some 10), .mv (.t 1), none, 131072, 0, []⟩,
   ⟨(some 11), .bin .lss (.t 10) (.k (.int .i64 0)), none, 131328, 1, []⟩])
 (.cond (.t 11)
  (.seq (.reg [⟨(some 4), .mv (.k (.int .i64 (-1))), none, 196608, 0, []⟩])
  (.ret))
  (.skip)))
 (.seq (.reg [⟨(some 12), .mv (.t 1), none, 262144, 0, []⟩,
   ⟨(some 4), .mv (.t 12), none, 262400, 1, []⟩])
 (.ret))))⟩
def F138 : F := ⟨1, 18, [.cell 2 5 true],
 .seq (.reg [⟨(some 1), .box (.t 0), none, 0, 0, []⟩,
   ⟨(some 2), .alloc [(.str ByteArray.empty), (.int .i64 0), (.int .i64 0), (.int .i64 0), (.int .i64 0)], none, 256, 1, []⟩])
 (.seq (.reg [⟨(some 3), .alloc [(.str ByteArray.empty), (.int .i64 0), (.int .i64 0), (.int .i64 0), (.int .i64 0)], none, 65536, 0, []⟩])
 (.seq (.reg [⟨(some 4), .faddr 0 (.t 1), none, 131072, 0, []⟩,
   ⟨(some 5), .load 1 false (.t 4), none, 131328, 1, []⟩,
   ⟨(some 6), .faddr 0 (.t 3), none, 131584, 2, []⟩,
   ⟨none, .store 1 (.t 6) (.t 5), none, 131840, 3, []⟩])
 (.seq (.reg [⟨(some 7), .faddr 1 (.t 1), none, 196608, 0, []⟩,
   ⟨(some 8), .load 2 true (.t 7), none, 196864, 1, []⟩,
   ⟨(some 9), .call 20 [(.t 8)] true, none, 197120, 2, []⟩,
   ⟨(some 10), .faddr 1 (.t 3), none, 197376, 3, []⟩,
   ⟨none, .store 2 (.t 10) (.t 9), none, 197632, 4, []⟩])
 (.seq (.reg [⟨(some 11), .faddr 3 (.t 1), none, 262144, 0, []⟩,
   ⟨(some 12), .load 1 false (.t 11), none, 262400, 1, []⟩,
   ⟨(some 13), .faddr 3 (.t 3), none, 262656, 2, []⟩,
   ⟨none, .store 1 (.t 13) (.t 12), none, 262912, 3, []⟩])
 (.seq (.reg [⟨(some 14), .faddr 4 (.t 1), none, 327680, 0, []⟩,
   ⟨(some 15), .load 1 false (.t 14), none, 327936, 1, []⟩,
   ⟨(some 16), .faddr 4 (.t 3), none, 328192, 2, []⟩,
   ⟨none, .store 1 (.t 16) (.t 15), none, 328448, 3, []⟩])
 (.seq (.reg [⟨(some 17), .load 5 true (.t 3), none, 393216, 0, []⟩,
   ⟨none, .store 5 (.t 2) (.t 17), none, 393472, 1, []⟩])
 (.ret)))))))⟩
def F139 : F := ⟨1, 15, [.cell 2 4 true],
 .seq (.reg [⟨(some 1), .box (.t 0), none, 0, 0, []⟩,
   ⟨(some 2), .alloc [(.int .i64 0), (.int .i64 0), (.int .i64 0), (.int .i64 0)], none, 256, 1, []⟩])
 (.seq (.reg [⟨(some 3), .alloc [(.int .i64 0), (.int .i64 0), (.int .i64 0), (.int .i64 0)], none, 65536, 0, []⟩])
 (.seq (.reg [⟨(some 4), .faddr 0 (.t 1), none, 131072, 0, []⟩,
   ⟨(some 5), .load 1 false (.t 4), none, 131328, 1, []⟩,
   ⟨(some 6), .faddr 0 (.t 3), none, 131584, 2, []⟩,
   ⟨none, .store 1 (.t 6) (.t 5), none, 131840, 3, []⟩])
 (.seq (.reg [⟨(some 7), .faddr 1 (.t 1), none, 196608, 0, []⟩,
   ⟨(some 8), .load 1 false (.t 7), none, 196864, 1, []⟩,
   ⟨(some 9), .faddr 1 (.t 3), none, 197120, 2, []⟩,
   ⟨none, .store 1 (.t 9) (.t 8), none, 197376, 3, []⟩])
 (.seq (.reg [⟨(some 10), .faddr 2 (.t 1), none, 262144, 0, []⟩,
   ⟨(some 11), .load 2 true (.t 10), none, 262400, 1, []⟩,
   ⟨(some 12), .call 20 [(.t 11)] true, none, 262656, 2, []⟩,
   ⟨(some 13), .faddr 2 (.t 3), none, 262912, 3, []⟩,
   ⟨none, .store 2 (.t 13) (.t 12), none, 263168, 4, []⟩])
 (.seq (.reg [⟨(some 14), .load 4 true (.t 3), none, 327680, 0, []⟩,
   ⟨none, .store 4 (.t 2) (.t 14), none, 327936, 1, []⟩])
 (.ret))))))⟩
def F140 : F := ⟨1, 29, [.cell 2 10 true],
 .seq (.reg [⟨(some 1), .box (.t 0), none, 0, 0, []⟩,
   ⟨(some 2), .alloc [(.int .i64 0), (.int .i64 0), (.int .i64 0), (.int .i64 0), (.str ByteArray.empty), (.bool false), (.int .i64 0), (.int .i64 0), (.int .i64 0), (.int .i64 0)], none, 256, 1, []⟩])
 (.seq (.reg [⟨(some 3), .alloc [(.int .i64 0), (.int .i64 0), (.int .i64 0), (.int .i64 0), (.str ByteArray.empty), (.bool false), (.int .i64 0), (.int .i64 0), (.int .i64 0), (.int .i64 0)], none, 65536, 0, []⟩])
 (.seq (.reg [⟨(some 4), .faddr 0 (.t 1), none, 131072, 0, []⟩,
   ⟨(some 5), .load 2 true (.t 4), none, 131328, 1, []⟩,
   ⟨(some 6), .call 20 [(.t 5)] true, none, 131584, 2, []⟩,
   ⟨(some 7), .faddr 0 (.t 3), none, 131840, 3, []⟩,
   ⟨none, .store 2 (.t 7) (.t 6), none, 132096, 4, []⟩])
 (.seq (.reg [⟨(some 8), .faddr 2 (.t 1), none, 196608, 0, []⟩,
   ⟨(some 9), .load 2 true (.t 8), none, 196864, 1, []⟩,
   ⟨(some 10), .call 20 [(.t 9)] true, none, 197120, 2, []⟩,
   ⟨(some 11), .faddr 2 (.t 3), none, 197376, 3, []⟩,
   ⟨none, .store 2 (.t 11) (.t 10), none, 197632, 4, []⟩])
 (.seq (.reg [⟨(some 12), .faddr 4 (.t 1), none, 262144, 0, []⟩,
   ⟨(some 13), .load 1 false (.t 12), none, 262400, 1, []⟩,
   ⟨(some 14), .faddr 4 (.t 3), none, 262656, 2, []⟩,
   ⟨none, .store 1 (.t 14) (.t 13), none, 262912, 3, []⟩])
 (.seq (.reg [⟨(some 15), .faddr 5 (.t 1), none, 327680, 0, []⟩,
   ⟨(some 16), .load 1 false (.t 15), none, 327936, 1, []⟩,
   ⟨(some 17), .faddr 5 (.t 3), none, 328192, 2, []⟩,
   ⟨none, .store 1 (.t 17) (.t 16), none, 328448, 3, []⟩])
 (.seq (.reg [⟨(some 18), .faddr 6 (.t 1), none, 393216, 0, []⟩,
   ⟨(some 19), .load 1 false (.t 18), none, 393472, 1, []⟩,
   ⟨(some 20), .faddr 6 (.t 3), none, 393728, 2, []⟩,
   ⟨none, .store 1 (.t 20) (.t 19), none, 393984, 3, []⟩])
 (.seq (.reg [⟨(some 21), .faddr 7 (.t 1), none, 458752, 0, []⟩,
   ⟨(some 22), .load 1 false (.t 21), none, 459008, 1, []⟩,
   ⟨(some 23), .faddr 7 (.t 3), none, 459264, 2, []⟩,
   ⟨none, .store 1 (.t 23) (.t 22), none, 459520, 3, []⟩])
 (.seq (.reg [⟨(some 24), .faddr 8 (.t 1), none, 524288, 0, []⟩,
   ⟨(some 25), .load 2 true (.t 24), none, 524544, 1, []⟩,
   ⟨(some 26), .call 206 [(.t 25)] true, none, 524800, 2, []⟩,
   ⟨(some 27), .faddr 8 (.t 3), none, 525056, 3, []⟩,
   ⟨none, .store 2 (.t 27) (.t 26), none, 525312, 4, []⟩])
 (.seq (.reg [⟨(some 28), .load 10 true (.t 3), none, 589824, 0, []⟩,
   ⟨none, .store 10 (.t 2) (.t 28), none, 590080, 1, []⟩])
 (.ret))))))))))⟩
def F141 : F := ⟨1, 11, [.t 2],
 .seq (.reg [⟨(some 1), .box (.t 0), none, 0, 0, []⟩,
   ⟨(some 2), .mv (.k (.bool false)), none, 256, 1, []⟩])
 (.seq (.reg [⟨(some 3), .faddr 0 (.t 1), none, 65536, 0, []⟩,
   ⟨(some 4), .load 1 false (.t 3), none, 65792, 1, []⟩,
   ⟨(some 5), .call 142 [(.t 4), (.k (.int .i64 1)), (.k (.int .i64 4))] true, none, 66048, 2, []⟩,
   ⟨(some 6), .mv (.t 5), none, 66304, 3, []⟩,
   ⟨(some 7), .faddr 1 (.t 1), (some (some 6, true)), 66560, 4, []⟩,
   ⟨(some 8), .load 1 false (.t 7), (some (some 6, true)), 66816, 5, []⟩,
   ⟨(some 9), .call 142 [(.t 8), (.k (.int .i64 0)), (.k (.int .i64 15))] true, (some (some 6, true)), 67072, 6, []⟩,
   ⟨(some 10), .pick (.t 6) (.t 9) (.k (.bool false)), none, 67328, 7, []⟩,
   ⟨(some 2), .mv (.t 10), none, 67584, 8, []⟩])
 (.ret))⟩
def F142 : F := ⟨3, 15, [.t 6],
 .seq (.reg [⟨(some 6), .mv (.k (.bool false)), none, 0, 0, []⟩])
 (.seq (.reg [⟨(some 7), .mv (.t 0), none, 65536, 0, []⟩,
   ⟨(some 8), .mv (.t 1), none, 65792, 1, []⟩,
   ⟨(some 9), .bin .geq (.t 7) (.t 8), none, 66048, 2, []⟩,
   ⟨(some 10), .mv (.t 9), none, 66304, 3, []⟩,
   ⟨(some 11), .mv (.t 0), (some (some 10, true)), 66560, 4, []⟩,
   ⟨(some 12), .mv (.t 2), (some (some 10, true)), 66816, 5, []⟩,
   ⟨(some 13), .bin .leq (.t 11) (.t 12), (some (some 10, true)), 67072, 6, []⟩,
   ⟨(some 14), .pick (.t 10) (.t 13) (.k (.bool false)), none, 67328, 7, []⟩,
   ⟨(some 6), .mv (.t 14), none, 67584, 8, []⟩])
 (.ret))⟩
def F143 : F := ⟨1, 16, [.t 2],
 .seq (.reg [⟨(some 1), .box (.t 0), none, 0, 0, []⟩,
   ⟨(some 2), .mv (.k (.bool false)), none, 256, 1, []⟩])
 (.seq (.reg [⟨(some 3), .load 2 true (.t 1), none, 65536, 0, []⟩,
   ⟨(some 4), .build [(.int .i64 0), (.int .i64 0)] [], none, 65792, 1, []⟩,
   ⟨(some 5), .eqv false true [.i, .i] (.t 3) (.t 4), none, 66048, 2, []⟩,
   ⟨(some 6), .mv (.t 5), none, 66304, 3, []⟩,
   ⟨(some 7), .faddr 0 (.t 1), (some (some 6, false)), 66560, 4, []⟩,
   ⟨(some 8), .load 1 false (.t 7), (some (some 6, false)), 66816, 5, []⟩,
   ⟨(some 9), .call 142 [(.t 8), (.k (.int .i64 1)), (.k (.int .i64 60))] true, (some (some 6, false)), 67072, 6, []⟩,
   ⟨(some 10), .mv (.t 9), (some (some 6, false)), 67328, 7, []⟩,
   ⟨(some 11), .faddr 1 (.t 1), (some (some 10, true)), 67584, 8, []⟩,
   ⟨(some 12), .load 1 false (.t 11), (some (some 10, true)), 67840, 9, []⟩,
   ⟨(some 13), .call 142 [(.t 12), (.k (.int .i64 1)), (.k (.int .i64 1000))] true, (some (some 10, true)), 68096, 10, []⟩,
   ⟨(some 14), .pick (.t 10) (.t 13) (.k (.bool false)), (some (some 6, false)), 68352, 11, []⟩,
   ⟨(some 15), .pick (.t 6) (.k (.bool true)) (.t 14), none, 68608, 12, []⟩,
   ⟨(some 2), .mv (.t 15), none, 68864, 13, []⟩])
 (.ret))⟩
def F144 : F := ⟨1, 107, [.t 2],
 .seq (.reg [⟨(some 1), .box (.t 0), none, 0, 0, []⟩,
   ⟨(some 2), .mv (.k (.bool false)), none, 256, 1, []⟩])
 (.seq (.seq (.reg [⟨(some 8), .faddr 6 (.t 1), none, 65536, 0, []⟩,
   ⟨(some 9), .load 1 false (.t 8), none, 65792, 1, []⟩,
   ⟨(some 10), .len false (.t 9), none, 66048, 2, []⟩,
   ⟨(some 11), .mv (.k (.int .i64 0)), none, 66304, 3, []⟩])
 (.block 0 (.loop [1, 9, 10, 11] [0, 1, 2, 3, 4, 5, 590592, 591105, 591106, 591107, 591108, 656640, 656897, 656898]
  (.seq (.reg [⟨(some 12), .bin .lss (.t 11) (.t 10), none, 131072, 0, []⟩])
  (.seq (.cond (.t 12)
   (.skip)
   (.exit 0))
  (.seq (.block 1 (.seq (.reg [⟨(some 13), .mv (.t 11), none, 196608, 0, []⟩,
    ⟨(some 14), .iaddr 5 (.t 9) (.t 11), none, 196864, 1, []⟩,
    ⟨(some 15), .load 5 true (.t 14), none, 197120, 2, []⟩,
    ⟨(some 4), .alloc [(.str ByteArray.empty), (.int .i64 0), (.int .i64 0), (.int .i64 0), (.int .i64 0)], none, 197376, 3, []⟩,
    ⟨(some 3), .mv (.t 13), none, 197632, 4, []⟩,
    ⟨none, .store 5 (.t 4) (.t 15), none, 197888, 5, []⟩])
  (.seq (.reg [⟨(some 16), .faddr 0 (.t 4), none, 262144, 0, []⟩,
    ⟨(some 17), .load 1 false (.t 16), none, 262400, 1, []⟩,
    ⟨(some 18), .call 161 [(.t 17)] true, none, 262656, 2, []⟩,
    ⟨(some 19), .not (.t 18), none, 262912, 3, []⟩,
    ⟨(some 20), .mv (.t 19), none, 263168, 4, []⟩,
    ⟨(some 21), .load 12 true (.t 1), (some (some 20, false)), 263424, 5, []⟩,
    ⟨(some 22), .faddr 1 (.t 4), (some (some 20, false)), 263680, 6, []⟩,
    ⟨(some 23), .load 2 true (.t 22), (some (some 20, false)), 263936, 7, []⟩,
    ⟨(some 24), .call 207 [(.t 21), (.t 23)] true, (some (some 20, false)), 264192, 8, []⟩,
    ⟨(some 25), .not (.t 24), (some (some 20, false)), 264448, 9, []⟩,
    ⟨(some 26), .pick (.t 20) (.k (.bool true)) (.t 25), none, 264704, 10, []⟩,
    ⟨(some 27), .mv (.t 26), none, 264960, 11, []⟩,
    ⟨(some 28), .faddr 3 (.t 4), (some (some 27, false)), 265216, 12, []⟩,
    ⟨(some 29), .load 1 false (.t 28), (some (some 27, false)), 265472, 13, []⟩,
    ⟨(some 30), .faddr 4 (.t 4), (some (some 27, false)), 265728, 14, []⟩,
    ⟨(some 31), .load 1 false (.t 30), (some (some 27, false)), 265984, 15, []⟩,
    ⟨(some 32), .call 177 [(.t 29), (.t 31)] true, (some (some 27, false)), 266240, 16, []⟩,
    ⟨(some 33), .not (.t 32), (some (some 27, false)), 266496, 17, []⟩,
    ⟨(some 34), .pick (.t 27) (.k (.bool true)) (.t 33), none, 266752, 18, []⟩,
    ⟨(some 35), .mv (.t 34), none, 267008, 19, []⟩,
    ⟨(some 36), .mv (.t 3), (some (some 35, false)), 267264, 20, []⟩,
    ⟨(some 37), .bin .gtr (.t 36) (.k (.int .i64 0)), (some (some 35, false)), 267520, 21, []⟩,
    ⟨(some 38), .mv (.t 37), (some (some 35, false)), 267776, 22, []⟩,
    ⟨(some 39), .faddr 0 (.t 4), (some (some 38, true)), 268032, 23, []⟩,
    ⟨(some 40), .load 1 false (.t 39), (some (some 38, true)), 268288, 24, []⟩,
    ⟨(some 41), .faddr 6 (.t 1), (some (some 38, true)), 268544, 25, []⟩,
    ⟨(some 42), .load 1 false (.t 41), (some (some 38, true)), 268800, 26, []⟩,
    ⟨(some 43), .mv (.t 3), (some (some 38, true)), 269056, 27, []⟩,
    ⟨(some 44), .bin .sub (.t 43) (.k (.int .i64 1)), (some (some 38, true)), 269312, 28, []⟩,
    ⟨(some 45), .iaddr 5 (.t 42) (.t 44), (some (some 38, true)), 269568, 29, []⟩,
    ⟨(some 46), .faddr 0 (.t 45), (some (some 38, true)), 269824, 30, []⟩,
    ⟨(some 47), .load 1 false (.t 46), (some (some 38, true)), 270080, 31, []⟩,
    ⟨(some 48), .bin .leq (.t 40) (.t 47), (some (some 38, true)), 270336, 32, []⟩,
    ⟨(some 49), .pick (.t 38) (.t 48) (.k (.bool false)), (some (some 35, false)), 270592, 33, []⟩,
    ⟨(some 50), .pick (.t 35) (.k (.bool true)) (.t 49), none, 270848, 34, []⟩])
  (.cond (.t 50)
   (.seq (.reg [⟨(some 2), .mv (.k (.bool false)), none, 327680, 0, []⟩])
   (.ret))
   (.skip)))))
  (.reg [⟨(some 51), .bin .add (.t 11) (.k (.int .i64 1)), none, 393216, 0, []⟩,
    ⟨(some 11), .mv (.t 51), none, 393472, 1, []⟩])))))))
 (.seq (.seq (.reg [⟨(some 52), .faddr 7 (.t 1), none, 458752, 0, []⟩,
   ⟨(some 53), .load 1 false (.t 52), none, 459008, 1, []⟩,
   ⟨(some 54), .len false (.t 53), none, 459264, 2, []⟩,
   ⟨(some 55), .mv (.k (.int .i64 0)), none, 459520, 3, []⟩])
 (.block 2 (.loop [1, 53, 54, 55] [0, 1, 2, 3, 4, 5, 197376, 197889, 197890, 197891, 197892, 197893]
  (.seq (.reg [⟨(some 56), .bin .lss (.t 55) (.t 54), none, 524288, 0, []⟩])
  (.seq (.cond (.t 56)
   (.skip)
   (.exit 2))
  (.seq (.block 3 (.seq (.reg [⟨(some 57), .mv (.t 55), none, 589824, 0, []⟩,
    ⟨(some 58), .iaddr 4 (.t 53) (.t 55), none, 590080, 1, []⟩,
    ⟨(some 59), .load 4 true (.t 58), none, 590336, 2, []⟩,
    ⟨(some 6), .alloc [(.int .i64 0), (.int .i64 0), (.int .i64 0), (.int .i64 0)], none, 590592, 3, []⟩,
    ⟨(some 5), .mv (.t 57), none, 590848, 4, []⟩,
    ⟨none, .store 4 (.t 6) (.t 59), none, 591104, 5, []⟩])
  (.seq (.reg [⟨(some 60), .faddr 0 (.t 6), none, 655360, 0, []⟩,
    ⟨(some 61), .load 1 false (.t 60), none, 655616, 1, []⟩,
    ⟨(some 62), .faddr 1 (.t 6), none, 655872, 2, []⟩,
    ⟨(some 63), .load 1 false (.t 62), none, 656128, 3, []⟩,
    ⟨(some 64), .build [(.int .i64 0), (.int .i64 0)] [(0, 1, (.t 61)), (1, 1, (.t 63))], none, 656384, 4, []⟩,
    ⟨(some 7), .alloc [(.int .i64 0), (.int .i64 0)], none, 656640, 5, []⟩,
    ⟨none, .store 2 (.t 7) (.t 64), none, 656896, 6, []⟩])
  (.seq (.reg [⟨(some 65), .load 2 true (.t 7), none, 720896, 0, []⟩,
    ⟨(some 66), .call 176 [(.t 65)] true, none, 721152, 1, []⟩,
    ⟨(some 67), .not (.t 66), none, 721408, 2, []⟩,
    ⟨(some 68), .mv (.t 67), none, 721664, 3, []⟩,
    ⟨(some 69), .load 2 true (.t 7), (some (some 68, false)), 721920, 4, []⟩,
    ⟨(some 70), .build [(.int .i64 0), (.int .i64 0)] [], (some (some 68, false)), 722176, 5, []⟩,
    ⟨(some 71), .eqv false true [.i, .i] (.t 69) (.t 70), (some (some 68, false)), 722432, 6, []⟩,
    ⟨(some 72), .pick (.t 68) (.k (.bool true)) (.t 71), none, 722688, 7, []⟩,
    ⟨(some 73), .mv (.t 72), none, 722944, 8, []⟩,
    ⟨(some 74), .load 12 true (.t 1), (some (some 73, false)), 723200, 9, []⟩,
    ⟨(some 75), .faddr 2 (.t 6), (some (some 73, false)), 723456, 10, []⟩,
    ⟨(some 76), .load 2 true (.t 75), (some (some 73, false)), 723712, 11, []⟩,
    ⟨(some 77), .call 207 [(.t 74), (.t 76)] true, (some (some 73, false)), 723968, 12, []⟩,
    ⟨(some 78), .not (.t 77), (some (some 73, false)), 724224, 13, []⟩,
    ⟨(some 79), .pick (.t 73) (.k (.bool true)) (.t 78), none, 724480, 14, []⟩,
    ⟨(some 80), .mv (.t 79), none, 724736, 15, []⟩,
    ⟨(some 81), .mv (.t 5), (some (some 80, false)), 724992, 16, []⟩,
    ⟨(some 82), .bin .gtr (.t 81) (.k (.int .i64 0)), (some (some 80, false)), 725248, 17, []⟩,
    ⟨(some 83), .mv (.t 82), (some (some 80, false)), 725504, 18, []⟩,
    ⟨(some 84), .faddr 0 (.t 6), (some (some 83, true)), 725760, 19, []⟩,
    ⟨(some 85), .load 1 false (.t 84), (some (some 83, true)), 726016, 20, []⟩,
    ⟨(some 86), .faddr 7 (.t 1), (some (some 83, true)), 726272, 21, []⟩,
    ⟨(some 87), .load 1 false (.t 86), (some (some 83, true)), 726528, 22, []⟩,
    ⟨(some 88), .mv (.t 5), (some (some 83, true)), 726784, 23, []⟩,
    ⟨(some 89), .bin .sub (.t 88) (.k (.int .i64 1)), (some (some 83, true)), 727040, 24, []⟩,
    ⟨(some 90), .iaddr 4 (.t 87) (.t 89), (some (some 83, true)), 727296, 25, []⟩,
    ⟨(some 91), .faddr 0 (.t 90), (some (some 83, true)), 727552, 26, []⟩,
    ⟨(some 92), .load 1 false (.t 91), (some (some 83, true)), 727808, 27, []⟩,
    ⟨(some 93), .bin .leq (.t 85) (.t 92), (some (some 83, true)), 728064, 28, []⟩,
    ⟨(some 94), .pick (.t 83) (.t 93) (.k (.bool false)), (some (some 80, false)), 728320, 29, []⟩,
    ⟨(some 95), .pick (.t 80) (.k (.bool true)) (.t 94), none, 728576, 30, []⟩])
  (.cond (.t 95)
   (.seq (.reg [⟨(some 2), .mv (.k (.bool false)), none, 786432, 0, []⟩])
   (.ret))
   (.skip))))))
  (.reg [⟨(some 96), .bin .add (.t 55) (.k (.int .i64 1)), none, 851968, 0, []⟩,
    ⟨(some 55), .mv (.t 96), none, 852224, 1, []⟩])))))))
 (.seq (.reg [⟨(some 97), .faddr 6 (.t 1), none, 917504, 0, []⟩,
   ⟨(some 98), .load 1 false (.t 97), none, 917760, 1, []⟩,
   ⟨(some 99), .len false (.t 98), none, 918016, 2, []⟩,
   ⟨(some 100), .bin .leq (.t 99) (.k (.int .i64 16)), none, 918272, 3, []⟩,
   ⟨(some 101), .mv (.t 100), none, 918528, 4, []⟩,
   ⟨(some 102), .faddr 7 (.t 1), (some (some 101, true)), 918784, 5, []⟩,
   ⟨(some 103), .load 1 false (.t 102), (some (some 101, true)), 919040, 6, []⟩,
   ⟨(some 104), .len false (.t 103), (some (some 101, true)), 919296, 7, []⟩,
   ⟨(some 105), .bin .leq (.t 104) (.k (.int .i64 6)), (some (some 101, true)), 919552, 8, []⟩,
   ⟨(some 106), .pick (.t 101) (.t 105) (.k (.bool false)), none, 919808, 9, []⟩,
   ⟨(some 2), .mv (.t 106), none, 920064, 10, []⟩])
 (.ret))))⟩
def F146 : F := ⟨1, 36, [.t 2],
 .seq (.reg [⟨(some 1), .box (.t 0), none, 0, 0, []⟩,
   ⟨(some 2), .mv (.k (.bool false)), none, 256, 1, []⟩])
 (.seq (.seq (.reg [⟨(some 5), .faddr 11 (.t 1), none, 65536, 0, []⟩,
   ⟨(some 6), .load 1 false (.t 5), none, 65792, 1, []⟩,
   ⟨(some 7), .len false (.t 6), none, 66048, 2, []⟩,
   ⟨(some 8), .mv (.k (.int .i64 0)), none, 66304, 3, []⟩])
 (.block 0 (.loop [1, 6, 7, 8] [0, 1, 2, 3, 4, 5]
  (.seq (.reg [⟨(some 9), .bin .lss (.t 8) (.t 7), none, 131072, 0, []⟩])
  (.seq (.cond (.t 9)
   (.skip)
   (.exit 0))
  (.seq (.block 1 (.seq (.reg [⟨(some 10), .mv (.t 8), none, 196608, 0, []⟩,
    ⟨(some 11), .iaddr 6 (.t 6) (.t 8), none, 196864, 1, []⟩,
    ⟨(some 12), .load 6 true (.t 11), none, 197120, 2, []⟩,
    ⟨(some 4), .alloc [(.str ByteArray.empty), (.int .i64 0), (.int .i64 0), (.int .i64 0), (.int .i64 0), (.str ByteArray.empty)], none, 197376, 3, []⟩,
    ⟨(some 3), .mv (.t 10), none, 197632, 4, []⟩,
    ⟨none, .store 6 (.t 4) (.t 12), none, 197888, 5, []⟩])
  (.seq (.reg [⟨(some 13), .load 6 true (.t 4), none, 262144, 0, []⟩,
    ⟨(some 14), .call 88 [(.t 13)] true, none, 262400, 1, []⟩,
    ⟨(some 15), .not (.t 14), none, 262656, 2, []⟩,
    ⟨(some 16), .mv (.t 15), none, 262912, 3, []⟩,
    ⟨(some 17), .mv (.t 3), (some (some 16, false)), 263168, 4, []⟩,
    ⟨(some 18), .bin .gtr (.t 17) (.k (.int .i64 0)), (some (some 16, false)), 263424, 5, []⟩,
    ⟨(some 19), .mv (.t 18), (some (some 16, false)), 263680, 6, []⟩,
    ⟨(some 20), .faddr 11 (.t 1), (some (some 19, true)), 263936, 7, []⟩,
    ⟨(some 21), .load 1 false (.t 20), (some (some 19, true)), 264192, 8, []⟩,
    ⟨(some 22), .mv (.t 3), (some (some 19, true)), 264448, 9, []⟩,
    ⟨(some 23), .bin .sub (.t 22) (.k (.int .i64 1)), (some (some 19, true)), 264704, 10, []⟩,
    ⟨(some 24), .iaddr 6 (.t 21) (.t 23), (some (some 19, true)), 264960, 11, []⟩,
    ⟨(some 25), .load 6 true (.t 24), (some (some 19, true)), 265216, 12, []⟩,
    ⟨(some 26), .load 6 true (.t 4), (some (some 19, true)), 265472, 13, []⟩,
    ⟨(some 27), .call 171 [(.t 25), (.t 26)] true, (some (some 19, true)), 265728, 14, []⟩,
    ⟨(some 28), .bin .geq (.t 27) (.k (.int .i64 0)), (some (some 19, true)), 265984, 15, []⟩,
    ⟨(some 29), .pick (.t 19) (.t 28) (.k (.bool false)), (some (some 16, false)), 266240, 16, []⟩,
    ⟨(some 30), .pick (.t 16) (.k (.bool true)) (.t 29), none, 266496, 17, []⟩])
  (.cond (.t 30)
   (.seq (.reg [⟨(some 2), .mv (.k (.bool false)), none, 327680, 0, []⟩])
   (.ret))
   (.skip)))))
  (.reg [⟨(some 31), .bin .add (.t 8) (.k (.int .i64 1)), none, 393216, 0, []⟩,
    ⟨(some 8), .mv (.t 31), none, 393472, 1, []⟩])))))))
 (.seq (.reg [⟨(some 32), .faddr 11 (.t 1), none, 458752, 0, []⟩,
   ⟨(some 33), .load 1 false (.t 32), none, 459008, 1, []⟩,
   ⟨(some 34), .len false (.t 33), none, 459264, 2, []⟩,
   ⟨(some 35), .bin .leq (.t 34) (.k (.int .i64 160)), none, 459520, 3, []⟩,
   ⟨(some 2), .mv (.t 35), none, 459776, 4, []⟩])
 (.ret)))⟩
def F147 : F := ⟨1, 20, [.cell 2 12 true],
 .seq (.reg [⟨(some 1), .box (.t 0), none, 0, 0, []⟩,
   ⟨(some 2), .alloc [(.int .i64 0), (.int .i64 0), (.int .i64 0), (.int .i64 0), (.int .i64 0), (.int .i64 0), (.nil true 5), (.nil true 4), (.nil true 10), (.int .i64 0), (.int .i64 0), (.nil true 6)], none, 256, 1, []⟩])
 (.seq (.reg [⟨(some 3), .faddr 6 (.t 1), none, 65536, 0, []⟩,
   ⟨(some 4), .load 1 false (.t 3), none, 65792, 1, []⟩,
   ⟨(some 5), .call 178 [(.t 4)] false, none, 66048, 2, []⟩,
   ⟨(some 6), .faddr 6 (.t 1), none, 66304, 3, []⟩,
   ⟨none, .store 1 (.t 6) (.t 5), none, 66560, 4, []⟩])
 (.seq (.reg [⟨(some 7), .faddr 7 (.t 1), none, 131072, 0, []⟩,
   ⟨(some 8), .load 1 false (.t 7), none, 131328, 1, []⟩,
   ⟨(some 9), .call 182 [(.t 8)] false, none, 131584, 2, []⟩,
   ⟨(some 10), .faddr 7 (.t 1), none, 131840, 3, []⟩,
   ⟨none, .store 1 (.t 10) (.t 9), none, 132096, 4, []⟩])
 (.seq (.reg [⟨(some 11), .faddr 8 (.t 1), none, 196608, 0, []⟩,
   ⟨(some 12), .load 1 false (.t 11), none, 196864, 1, []⟩,
   ⟨(some 13), .call 189 [(.t 12)] false, none, 197120, 2, []⟩,
   ⟨(some 14), .faddr 8 (.t 1), none, 197376, 3, []⟩,
   ⟨none, .store 1 (.t 14) (.t 13), none, 197632, 4, []⟩])
 (.seq (.reg [⟨(some 15), .faddr 11 (.t 1), none, 262144, 0, []⟩,
   ⟨(some 16), .load 1 false (.t 15), none, 262400, 1, []⟩,
   ⟨(some 17), .call 208 [(.t 16)] false, none, 262656, 2, []⟩,
   ⟨(some 18), .faddr 11 (.t 1), none, 262912, 3, []⟩,
   ⟨none, .store 1 (.t 18) (.t 17), none, 263168, 4, []⟩])
 (.seq (.reg [⟨(some 19), .load 12 true (.t 1), none, 327680, 0, []⟩,
   ⟨none, .store 12 (.t 2) (.t 19), none, 327936, 1, []⟩])
 (.ret))))))⟩
def F151 : F := ⟨2, 26, [.t 4],
 .seq (.reg [⟨(some 2), .box (.t 0), none, 0, 0, []⟩,
   ⟨(some 3), .box (.t 1), none, 256, 1, []⟩,
   ⟨(some 4), .mv (.k (.bool false)), none, 512, 2, []⟩])
 (.seq (.seq (.reg [⟨(some 5), .faddr 0 (.t 2), none, 65536, 0, []⟩,
   ⟨(some 6), .load 1 false (.t 5), none, 65792, 1, []⟩,
   ⟨(some 7), .faddr 0 (.t 3), none, 66048, 2, []⟩,
   ⟨(some 8), .load 1 false (.t 7), none, 66304, 3, []⟩,
   ⟨(some 9), .bin .neq (.t 6) (.t 8), none, 66560, 4, []⟩])
 (.cond (.t 9)
  (.seq (.reg [⟨(some 4), .mv (.k (.bool false)), none, 131072, 0, []⟩])
  (.ret))
  (.skip)))
 (.seq (.seq (.reg [⟨(some 10), .faddr 1 (.t 2), none, 196608, 0, []⟩,
   ⟨(some 11), .load 2 true (.t 10), none, 196864, 1, []⟩,
   ⟨(some 12), .faddr 1 (.t 3), none, 197120, 2, []⟩,
   ⟨(some 13), .load 2 true (.t 12), none, 197376, 3, []⟩,
   ⟨(some 14), .call 69 [(.t 11), (.t 13)] true, none, 197632, 4, []⟩,
   ⟨(some 15), .not (.t 14), none, 197888, 5, []⟩])
 (.cond (.t 15)
  (.seq (.reg [⟨(some 4), .mv (.k (.bool false)), none, 262144, 0, []⟩])
  (.ret))
  (.skip)))
 (.seq (.seq (.reg [⟨(some 16), .faddr 3 (.t 2), none, 327680, 0, []⟩,
   ⟨(some 17), .load 1 false (.t 16), none, 327936, 1, []⟩,
   ⟨(some 18), .faddr 3 (.t 3), none, 328192, 2, []⟩,
   ⟨(some 19), .load 1 false (.t 18), none, 328448, 3, []⟩,
   ⟨(some 20), .bin .neq (.t 17) (.t 19), none, 328704, 4, []⟩])
 (.cond (.t 20)
  (.seq (.reg [⟨(some 4), .mv (.k (.bool false)), none, 393216, 0, []⟩])
  (.ret))
  (.skip)))
 (.seq (.seq (.reg [⟨(some 21), .faddr 4 (.t 2), none, 458752, 0, []⟩,
   ⟨(some 22), .load 1 false (.t 21), none, 459008, 1, []⟩,
   ⟨(some 23), .faddr 4 (.t 3), none, 459264, 2, []⟩,
   ⟨(some 24), .load 1 false (.t 23), none, 459520, 3, []⟩,
   ⟨(some 25), .bin .neq (.t 22) (.t 24), none, 459776, 4, []⟩])
 (.cond (.t 25)
  (.seq (.reg [⟨(some 4), .mv (.k (.bool false)), none, 524288, 0, []⟩])
  (.ret))
  (.skip)))
 (.seq (.reg [⟨(some 4), .mv (.k (.bool true)), none, 589824, 0, []⟩])
 (.ret))))))⟩
def F152 : F := ⟨2, 21, [.t 4],
 .seq (.reg [⟨(some 2), .box (.t 0), none, 0, 0, []⟩,
   ⟨(some 3), .box (.t 1), none, 256, 1, []⟩,
   ⟨(some 4), .mv (.k (.bool false)), none, 512, 2, []⟩])
 (.seq (.seq (.reg [⟨(some 5), .faddr 0 (.t 2), none, 65536, 0, []⟩,
   ⟨(some 6), .load 1 false (.t 5), none, 65792, 1, []⟩,
   ⟨(some 7), .faddr 0 (.t 3), none, 66048, 2, []⟩,
   ⟨(some 8), .load 1 false (.t 7), none, 66304, 3, []⟩,
   ⟨(some 9), .bin .neq (.t 6) (.t 8), none, 66560, 4, []⟩])
 (.cond (.t 9)
  (.seq (.reg [⟨(some 4), .mv (.k (.bool false)), none, 131072, 0, []⟩])
  (.ret))
  (.skip)))
 (.seq (.seq (.reg [⟨(some 10), .faddr 1 (.t 2), none, 196608, 0, []⟩,
   ⟨(some 11), .load 1 false (.t 10), none, 196864, 1, []⟩,
   ⟨(some 12), .faddr 1 (.t 3), none, 197120, 2, []⟩,
   ⟨(some 13), .load 1 false (.t 12), none, 197376, 3, []⟩,
   ⟨(some 14), .bin .neq (.t 11) (.t 13), none, 197632, 4, []⟩])
 (.cond (.t 14)
  (.seq (.reg [⟨(some 4), .mv (.k (.bool false)), none, 262144, 0, []⟩])
  (.ret))
  (.skip)))
 (.seq (.seq (.reg [⟨(some 15), .faddr 2 (.t 2), none, 327680, 0, []⟩,
   ⟨(some 16), .load 2 true (.t 15), none, 327936, 1, []⟩,
   ⟨(some 17), .faddr 2 (.t 3), none, 328192, 2, []⟩,
   ⟨(some 18), .load 2 true (.t 17), none, 328448, 3, []⟩,
   ⟨(some 19), .call 69 [(.t 16), (.t 18)] true, none, 328704, 4, []⟩,
   ⟨(some 20), .not (.t 19), none, 328960, 5, []⟩])
 (.cond (.t 20)
  (.seq (.reg [⟨(some 4), .mv (.k (.bool false)), none, 393216, 0, []⟩])
  (.ret))
  (.skip)))
 (.seq (.reg [⟨(some 4), .mv (.k (.bool true)), none, 458752, 0, []⟩])
 (.ret)))))⟩
def F153 : F := ⟨2, 43, [.t 4],
 .seq (.reg [⟨(some 2), .box (.t 0), none, 0, 0, []⟩,
   ⟨(some 3), .box (.t 1), none, 256, 1, []⟩,
   ⟨(some 4), .mv (.k (.bool false)), none, 512, 2, []⟩])
 (.seq (.seq (.reg [⟨(some 5), .faddr 0 (.t 2), none, 65536, 0, []⟩,
   ⟨(some 6), .load 2 true (.t 5), none, 65792, 1, []⟩,
   ⟨(some 7), .faddr 0 (.t 3), none, 66048, 2, []⟩,
   ⟨(some 8), .load 2 true (.t 7), none, 66304, 3, []⟩,
   ⟨(some 9), .call 69 [(.t 6), (.t 8)] true, none, 66560, 4, []⟩,
   ⟨(some 10), .not (.t 9), none, 66816, 5, []⟩])
 (.cond (.t 10)
  (.seq (.reg [⟨(some 4), .mv (.k (.bool false)), none, 131072, 0, []⟩])
  (.ret))
  (.skip)))
 (.seq (.seq (.reg [⟨(some 11), .faddr 2 (.t 2), none, 196608, 0, []⟩,
   ⟨(some 12), .load 2 true (.t 11), none, 196864, 1, []⟩,
   ⟨(some 13), .faddr 2 (.t 3), none, 197120, 2, []⟩,
   ⟨(some 14), .load 2 true (.t 13), none, 197376, 3, []⟩,
   ⟨(some 15), .call 69 [(.t 12), (.t 14)] true, none, 197632, 4, []⟩,
   ⟨(some 16), .not (.t 15), none, 197888, 5, []⟩])
 (.cond (.t 16)
  (.seq (.reg [⟨(some 4), .mv (.k (.bool false)), none, 262144, 0, []⟩])
  (.ret))
  (.skip)))
 (.seq (.seq (.reg [⟨(some 17), .faddr 4 (.t 2), none, 327680, 0, []⟩,
   ⟨(some 18), .load 1 false (.t 17), none, 327936, 1, []⟩,
   ⟨(some 19), .faddr 4 (.t 3), none, 328192, 2, []⟩,
   ⟨(some 20), .load 1 false (.t 19), none, 328448, 3, []⟩,
   ⟨(some 21), .bin .neq (.t 18) (.t 20), none, 328704, 4, []⟩])
 (.cond (.t 21)
  (.seq (.reg [⟨(some 4), .mv (.k (.bool false)), none, 393216, 0, []⟩])
  (.ret))
  (.skip)))
 (.seq (.seq (.reg [⟨(some 22), .faddr 5 (.t 2), none, 458752, 0, []⟩,
   ⟨(some 23), .load 1 false (.t 22), none, 459008, 1, []⟩,
   ⟨(some 24), .faddr 5 (.t 3), none, 459264, 2, []⟩,
   ⟨(some 25), .load 1 false (.t 24), none, 459520, 3, []⟩,
   ⟨(some 26), .eqv true false [.b] (.t 23) (.t 25), none, 459776, 4, []⟩])
 (.cond (.t 26)
  (.seq (.reg [⟨(some 4), .mv (.k (.bool false)), none, 524288, 0, []⟩])
  (.ret))
  (.skip)))
 (.seq (.seq (.reg [⟨(some 27), .faddr 6 (.t 2), none, 589824, 0, []⟩,
   ⟨(some 28), .load 1 false (.t 27), none, 590080, 1, []⟩,
   ⟨(some 29), .faddr 6 (.t 3), none, 590336, 2, []⟩,
   ⟨(some 30), .load 1 false (.t 29), none, 590592, 3, []⟩,
   ⟨(some 31), .bin .neq (.t 28) (.t 30), none, 590848, 4, []⟩])
 (.cond (.t 31)
  (.seq (.reg [⟨(some 4), .mv (.k (.bool false)), none, 655360, 0, []⟩])
  (.ret))
  (.skip)))
 (.seq (.seq (.reg [⟨(some 32), .faddr 7 (.t 2), none, 720896, 0, []⟩,
   ⟨(some 33), .load 1 false (.t 32), none, 721152, 1, []⟩,
   ⟨(some 34), .faddr 7 (.t 3), none, 721408, 2, []⟩,
   ⟨(some 35), .load 1 false (.t 34), none, 721664, 3, []⟩,
   ⟨(some 36), .bin .neq (.t 33) (.t 35), none, 721920, 4, []⟩])
 (.cond (.t 36)
  (.seq (.reg [⟨(some 4), .mv (.k (.bool false)), none, 786432, 0, []⟩])
  (.ret))
  (.skip)))
 (.seq (.seq (.reg [⟨(some 37), .faddr 8 (.t 2), none, 851968, 0, []⟩,
   ⟨(some 38), .load 2 true (.t 37), none, 852224, 1, []⟩,
   ⟨(some 39), .faddr 8 (.t 3), none, 852480, 2, []⟩,
   ⟨(some 40), .load 2 true (.t 39), none, 852736, 3, []⟩,
   ⟨(some 41), .call 214 [(.t 38), (.t 40)] true, none, 852992, 4, []⟩,
   ⟨(some 42), .not (.t 41), none, 853248, 5, []⟩])
 (.cond (.t 42)
  (.seq (.reg [⟨(some 4), .mv (.k (.bool false)), none, 917504, 0, []⟩])
  (.ret))
  (.skip)))
 (.seq (.reg [⟨(some 4), .mv (.k (.bool true)), none, 983040, 0, []⟩])
 (.ret)))))))))⟩
def F154 : F := ⟨2, 31, [.t 4],
 .seq (.reg [⟨(some 2), .box (.t 0), none, 0, 0, []⟩,
   ⟨(some 3), .box (.t 1), none, 256, 1, []⟩,
   ⟨(some 4), .mv (.k (.bool false)), none, 512, 2, []⟩])
 (.seq (.seq (.reg [⟨(some 5), .faddr 0 (.t 2), none, 65536, 0, []⟩,
   ⟨(some 6), .load 1 false (.t 5), none, 65792, 1, []⟩,
   ⟨(some 7), .faddr 0 (.t 3), none, 66048, 2, []⟩,
   ⟨(some 8), .load 1 false (.t 7), none, 66304, 3, []⟩,
   ⟨(some 9), .bin .neq (.t 6) (.t 8), none, 66560, 4, []⟩])
 (.cond (.t 9)
  (.seq (.reg [⟨(some 4), .mv (.k (.bool false)), none, 131072, 0, []⟩])
  (.ret))
  (.skip)))
 (.seq (.seq (.reg [⟨(some 10), .faddr 1 (.t 2), none, 196608, 0, []⟩,
   ⟨(some 11), .load 2 true (.t 10), none, 196864, 1, []⟩,
   ⟨(some 12), .faddr 1 (.t 3), none, 197120, 2, []⟩,
   ⟨(some 13), .load 2 true (.t 12), none, 197376, 3, []⟩,
   ⟨(some 14), .call 69 [(.t 11), (.t 13)] true, none, 197632, 4, []⟩,
   ⟨(some 15), .not (.t 14), none, 197888, 5, []⟩])
 (.cond (.t 15)
  (.seq (.reg [⟨(some 4), .mv (.k (.bool false)), none, 262144, 0, []⟩])
  (.ret))
  (.skip)))
 (.seq (.seq (.reg [⟨(some 16), .faddr 3 (.t 2), none, 327680, 0, []⟩,
   ⟨(some 17), .load 1 false (.t 16), none, 327936, 1, []⟩,
   ⟨(some 18), .faddr 3 (.t 3), none, 328192, 2, []⟩,
   ⟨(some 19), .load 1 false (.t 18), none, 328448, 3, []⟩,
   ⟨(some 20), .bin .neq (.t 17) (.t 19), none, 328704, 4, []⟩])
 (.cond (.t 20)
  (.seq (.reg [⟨(some 4), .mv (.k (.bool false)), none, 393216, 0, []⟩])
  (.ret))
  (.skip)))
 (.seq (.seq (.reg [⟨(some 21), .faddr 4 (.t 2), none, 458752, 0, []⟩,
   ⟨(some 22), .load 1 false (.t 21), none, 459008, 1, []⟩,
   ⟨(some 23), .faddr 4 (.t 3), none, 459264, 2, []⟩,
   ⟨(some 24), .load 1 false (.t 23), none, 459520, 3, []⟩,
   ⟨(some 25), .bin .neq (.t 22) (.t 24), none, 459776, 4, []⟩])
 (.cond (.t 25)
  (.seq (.reg [⟨(some 4), .mv (.k (.bool false)), none, 524288, 0, []⟩])
  (.ret))
  (.skip)))
 (.seq (.seq (.reg [⟨(some 26), .faddr 5 (.t 2), none, 589824, 0, []⟩,
   ⟨(some 27), .load 1 false (.t 26), none, 590080, 1, []⟩,
   ⟨(some 28), .faddr 5 (.t 3), none, 590336, 2, []⟩,
   ⟨(some 29), .load 1 false (.t 28), none, 590592, 3, []⟩,
   ⟨(some 30), .bin .neq (.t 27) (.t 29), none, 590848, 4, []⟩])
 (.cond (.t 30)
  (.seq (.reg [⟨(some 4), .mv (.k (.bool false)), none, 655360, 0, []⟩])
  (.ret))
  (.skip)))
 (.seq (.reg [⟨(some 4), .mv (.k (.bool true)), none, 720896, 0, []⟩])
 (.ret)))))))⟩
def F155 : F := ⟨1, 20, [.t 2],
 .seq (.reg [⟨(some 2), .mv (.k (.str ByteArray.empty)), none, 0, 0, []⟩])
 (.seq (.seq (.reg [⟨(some 4), .mv (.t 0), none, 65536, 0, []⟩,
   ⟨(some 5), .bin .leq (.t 4) (.k (.int .i64 0)), none, 65792, 1, []⟩])
 (.cond (.t 5)
  (.seq (.reg [⟨(some 2), .mv (.k (.str ⟨#[109, 48]⟩)), none, 131072, 0, []⟩])
  (.ret))
  (.skip)))
 (.seq (.reg [⟨(some 3), .mv (.k (.str ByteArray.empty)), none, 196608, 0, []⟩])
 (.seq (.block 0 (.loop [0, 3] []
  (.seq (.seq (.reg [⟨(some 6), .mv (.t 0), none, 262144, 0, []⟩,
    ⟨(some 7), .bin .gtr (.t 6) (.k (.int .i64 0)), none, 262400, 1, []⟩])
  (.cond (.t 7)
   (.skip)
   (.exit 0)))
  (.block 1 (.seq (.reg [⟨(some 8), .mv (.t 0), none, 327680, 0, []⟩,
    ⟨(some 9), .bin .rem (.t 8) (.k (.int .i64 10)), none, 327936, 1, []⟩,
    ⟨(some 10), .bin .add (.k (.int .i64 48)) (.t 9), none, 328192, 2, []⟩,
    ⟨(some 11), .conv .u8 (.t 10), none, 328448, 3, []⟩,
    ⟨(some 12), .bslice true 1 [(.int .u8 0)] 1 [(0, (.t 11))], none, 328704, 4, []⟩,
    ⟨(some 13), .b2s (.t 12), none, 328960, 5, []⟩,
    ⟨(some 14), .mv (.t 3), none, 329216, 6, []⟩,
    ⟨(some 15), .bin .add (.t 13) (.t 14), none, 329472, 7, []⟩,
    ⟨(some 3), .mv (.t 15), none, 329728, 8, []⟩])
  (.reg [⟨(some 16), .mv (.t 0), none, 393216, 0, []⟩,
    ⟨(some 17), .bin .quo (.t 16) (.k (.int .i64 10)), none, 393472, 1, []⟩,
    ⟨(some 0), .mv (.t 17), none, 393728, 2, []⟩]))))))
 (.seq (.reg [⟨(some 18), .mv (.t 3), none, 458752, 0, []⟩,
   ⟨(some 19), .bin .add (.k (.str ⟨#[109]⟩)) (.t 18), none, 459008, 1, []⟩,
   ⟨(some 2), .mv (.t 19), none, 459264, 2, []⟩])
 (.ret)))))⟩
def F157 : F := ⟨1, 5, [.t 2],
 .seq (.reg [⟨(some 2), .mv (.k (.bool false)), none, 0, 0, []⟩])
 (.seq (.reg [⟨(some 3), .mv (.t 0), none, 65536, 0, []⟩,
   ⟨(some 4), .call 217 [(.t 3)] true, none, 65792, 1, []⟩,
   ⟨(some 2), .mv (.t 4), none, 66048, 2, []⟩])
 (.ret))⟩
def F158 : F := ⟨1, 10, [.t 2],
 .seq (.reg [⟨(some 1), .box (.t 0), none, 0, 0, []⟩,
   ⟨(some 2), .mv (.k (.bool false)), none, 256, 1, []⟩])
 (.seq (.reg [⟨(some 3), .load 2 true (.t 1), none, 65536, 0, []⟩,
   ⟨(some 4), .call 98 [(.t 3)] true, none, 65792, 1, []⟩,
   ⟨(some 5), .mv (.t 4), none, 66048, 2, []⟩,
   ⟨(some 6), .load 2 true (.t 1), (some (some 5, true)), 66304, 3, []⟩,
   ⟨(some 7), .call 172 [(.t 6)] true, (some (some 5, true)), 66560, 4, []⟩,
   ⟨(some 8), .not (.t 7), (some (some 5, true)), 66816, 5, []⟩,
   ⟨(some 9), .pick (.t 5) (.t 8) (.k (.bool false)), none, 67072, 6, []⟩,
   ⟨(some 2), .mv (.t 9), none, 67328, 7, []⟩])
 (.ret))⟩
def F159 : F := ⟨1, 5, [.t 2],
 .seq (.reg [⟨(some 2), .mv (.k (.bool false)), none, 0, 0, []⟩])
 (.seq (.reg [⟨(some 3), .mv (.t 0), none, 65536, 0, []⟩,
   ⟨(some 4), .call 97 [(.t 3), (.k (.int .i64 0)), (.k (.int .i64 4294967295))] true, none, 65792, 1, []⟩,
   ⟨(some 2), .mv (.t 4), none, 66048, 2, []⟩])
 (.ret))⟩
def F160 : F := ⟨2, 30, [.t 4],
 .seq (.reg [⟨(some 2), .box (.t 0), none, 0, 0, []⟩,
   ⟨(some 3), .box (.t 1), none, 256, 1, []⟩,
   ⟨(some 4), .mv (.k (.bool false)), none, 512, 2, []⟩])
 (.seq (.seq (.reg [⟨(some 5), .faddr 0 (.t 2), none, 65536, 0, []⟩,
   ⟨(some 6), .load 1 false (.t 5), none, 65792, 1, []⟩,
   ⟨(some 7), .faddr 0 (.t 3), none, 66048, 2, []⟩,
   ⟨(some 8), .load 1 false (.t 7), none, 66304, 3, []⟩,
   ⟨(some 9), .bin .neq (.t 6) (.t 8), none, 66560, 4, []⟩])
 (.cond (.t 9)
  (.seq (.reg [⟨(some 10), .faddr 0 (.t 2), none, 131072, 0, []⟩,
    ⟨(some 11), .load 1 false (.t 10), none, 131328, 1, []⟩,
    ⟨(some 12), .faddr 0 (.t 3), none, 131584, 2, []⟩,
    ⟨(some 13), .load 1 false (.t 12), none, 131840, 3, []⟩,
    ⟨(some 14), .bin .lss (.t 11) (.t 13), none, 132096, 4, []⟩,
    ⟨(some 4), .mv (.t 14), none, 132352, 5, []⟩])
  (.ret))
  (.skip)))
 (.seq (.seq (.reg [⟨(some 15), .faddr 1 (.t 2), none, 196608, 0, []⟩,
   ⟨(some 16), .load 2 true (.t 15), none, 196864, 1, []⟩,
   ⟨(some 17), .faddr 1 (.t 3), none, 197120, 2, []⟩,
   ⟨(some 18), .load 2 true (.t 17), none, 197376, 3, []⟩,
   ⟨(some 19), .eqv true true [.i, .i] (.t 16) (.t 18), none, 197632, 4, []⟩])
 (.cond (.t 19)
  (.seq (.reg [⟨(some 20), .faddr 1 (.t 2), none, 262144, 0, []⟩,
    ⟨(some 21), .load 2 true (.t 20), none, 262400, 1, []⟩,
    ⟨(some 22), .faddr 1 (.t 3), none, 262656, 2, []⟩,
    ⟨(some 23), .load 2 true (.t 22), none, 262912, 3, []⟩,
    ⟨(some 24), .call 83 [(.t 21), (.t 23)] true, none, 263168, 4, []⟩,
    ⟨(some 4), .mv (.t 24), none, 263424, 5, []⟩])
  (.ret))
  (.skip)))
 (.seq (.reg [⟨(some 25), .faddr 3 (.t 2), none, 327680, 0, []⟩,
   ⟨(some 26), .load 1 false (.t 25), none, 327936, 1, []⟩,
   ⟨(some 27), .faddr 3 (.t 3), none, 328192, 2, []⟩,
   ⟨(some 28), .load 1 false (.t 27), none, 328448, 3, []⟩,
   ⟨(some 29), .bin .lss (.t 26) (.t 28), none, 328704, 4, []⟩,
   ⟨(some 4), .mv (.t 29), none, 328960, 5, []⟩])
 (.ret))))⟩
def F161 : F := ⟨1, 31, [.t 2],
 .seq (.reg [⟨(some 2), .mv (.k (.bool false)), none, 0, 0, []⟩])
 (.seq (.seq (.reg [⟨(some 5), .mv (.t 0), none, 65536, 0, []⟩,
   ⟨(some 6), .len true (.t 5), none, 65792, 1, []⟩,
   ⟨(some 7), .mv (.k (.int .i64 0)), none, 66048, 2, []⟩])
 (.block 0 (.loop [0, 6, 7] []
  (.seq (.reg [⟨(some 8), .bin .lss (.t 7) (.t 6), none, 131072, 0, []⟩])
  (.seq (.cond (.t 8)
   (.skip)
   (.exit 0))
  (.seq (.block 1 (.seq (.reg [⟨(some 9), .mv (.t 7), none, 196608, 0, []⟩,
    ⟨(some 3), .mv (.t 9), none, 196864, 1, []⟩])
  (.seq (.reg [⟨(some 10), .mv (.t 0), none, 262144, 0, []⟩,
    ⟨(some 11), .mv (.t 3), none, 262400, 1, []⟩,
    ⟨(some 12), .idx (.t 10) (.t 11), none, 262656, 2, []⟩,
    ⟨(some 4), .mv (.t 12), none, 262912, 3, []⟩])
  (.seq (.reg [⟨(some 13), .mv (.t 4), none, 327680, 0, []⟩,
    ⟨(some 14), .bin .lss (.t 13) (.k (.int .u8 97)), none, 327936, 1, []⟩,
    ⟨(some 15), .mv (.t 14), none, 328192, 2, []⟩,
    ⟨(some 16), .mv (.t 4), (some (some 15, false)), 328448, 3, []⟩,
    ⟨(some 17), .bin .gtr (.t 16) (.k (.int .u8 122)), (some (some 15, false)), 328704, 4, []⟩,
    ⟨(some 18), .pick (.t 15) (.k (.bool true)) (.t 17), none, 328960, 5, []⟩,
    ⟨(some 19), .mv (.t 18), none, 329216, 6, []⟩,
    ⟨(some 20), .mv (.t 4), (some (some 19, true)), 329472, 7, []⟩,
    ⟨(some 21), .bin .lss (.t 20) (.k (.int .u8 48)), (some (some 19, true)), 329728, 8, []⟩,
    ⟨(some 22), .mv (.t 21), (some (some 19, true)), 329984, 9, []⟩,
    ⟨(some 23), .mv (.t 4), (some (some 22, false)), 330240, 10, []⟩,
    ⟨(some 24), .bin .gtr (.t 23) (.k (.int .u8 57)), (some (some 22, false)), 330496, 11, []⟩,
    ⟨(some 25), .pick (.t 22) (.k (.bool true)) (.t 24), (some (some 19, true)), 330752, 12, []⟩,
    ⟨(some 26), .pick (.t 19) (.t 25) (.k (.bool false)), none, 331008, 13, []⟩])
  (.cond (.t 26)
   (.seq (.reg [⟨(some 2), .mv (.k (.bool false)), none, 393216, 0, []⟩])
   (.ret))
   (.skip))))))
  (.reg [⟨(some 27), .bin .add (.t 7) (.k (.int .i64 1)), none, 458752, 0, []⟩,
    ⟨(some 7), .mv (.t 27), none, 459008, 1, []⟩])))))))
 (.seq (.reg [⟨(some 28), .mv (.t 0), none, 524288, 0, []⟩,
   ⟨(some 29), .len true (.t 28), none, 524544, 1, []⟩,
   ⟨(some 30), .call 142 [(.t 29), (.k (.int .i64 1)), (.k (.int .i64 8))] true, none, 524800, 2, []⟩,
   ⟨(some 2), .mv (.t 30), none, 525056, 3, []⟩])
 (.ret)))⟩
def F171 : F := ⟨2, 22, [.t 4],
 .seq (.reg [⟨(some 2), .box (.t 0), none, 0, 0, []⟩,
   ⟨(some 3), .box (.t 1), none, 256, 1, []⟩,
   ⟨(some 4), .mv (.k (.int .i64 0)), none, 512, 2, []⟩])
 (.seq (.reg [⟨(some 5), .faddr 0 (.t 2), none, 65536, 0, []⟩,
   ⟨(some 6), .load 1 false (.t 5), none, 65792, 1, []⟩,
   ⟨(some 7), .faddr 0 (.t 3), none, 66048, 2, []⟩,
   ⟨(some 8), .load 1 false (.t 7), none, 66304, 3, []⟩,
   ⟨(some 9), .call 225 [(.t 6), (.t 8)] true, none, 66560, 4, []⟩,
   ⟨(some 10), .faddr 1 (.t 2), none, 66816, 5, []⟩,
   ⟨(some 11), .load 2 true (.t 10), none, 67072, 6, []⟩,
   ⟨(some 12), .faddr 1 (.t 3), none, 67328, 7, []⟩,
   ⟨(some 13), .load 2 true (.t 12), none, 67584, 8, []⟩,
   ⟨(some 14), .call 111 [(.t 11), (.t 13)] true, none, 67840, 9, []⟩,
   ⟨(some 15), .faddr 3 (.t 2), none, 68096, 10, []⟩,
   ⟨(some 16), .load 1 false (.t 15), none, 68352, 11, []⟩,
   ⟨(some 17), .faddr 3 (.t 3), none, 68608, 12, []⟩,
   ⟨(some 18), .load 1 false (.t 17), none, 68864, 13, []⟩,
   ⟨(some 19), .call 185 [(.t 16), (.t 18)] true, none, 69120, 14, []⟩,
   ⟨(some 20), .bslice true 1 [(.int .i64 0)] 3 [(0, (.t 9)), (1, (.t 14)), (2, (.t 19))], none, 69376, 15, []⟩,
   ⟨(some 21), .call 188 [(.t 20)] true, none, 69632, 16, []⟩,
   ⟨(some 4), .mv (.t 21), none, 69888, 17, []⟩])
 (.ret))⟩
def F172 : F := ⟨1, 6, [.t 2],
 .seq (.reg [⟨(some 1), .box (.t 0), none, 0, 0, []⟩,
   ⟨(some 2), .mv (.k (.bool false)), none, 256, 1, []⟩])
 (.seq (.reg [⟨(some 3), .load 2 true (.t 1), none, 65536, 0, []⟩,
   ⟨(some 4), .build [(.int .i64 0), (.int .i64 0)] [], none, 65792, 1, []⟩,
   ⟨(some 5), .eqv false true [.i, .i] (.t 3) (.t 4), none, 66048, 2, []⟩,
   ⟨(some 2), .mv (.t 5), none, 66304, 3, []⟩])
 (.ret))⟩
def F173 : F := ⟨1, 5, [.t 2],
 .seq (.reg [⟨(some 2), .mv (.k (.bool false)), none, 0, 0, []⟩])
 (.seq (.reg [⟨(some 3), .mv (.t 0), none, 65536, 0, []⟩,
   ⟨(some 4), .call 97 [(.t 3), (.k (.int .i64 100)), (.k (.int .i64 105))] true, none, 65792, 1, []⟩,
   ⟨(some 2), .mv (.t 4), none, 66048, 2, []⟩])
 (.ret))⟩
def F174 : F := ⟨1, 60, [.t 2],
 .seq (.reg [⟨(some 1), .box (.t 0), none, 0, 0, []⟩,
   ⟨(some 2), .mv (.k (.bool false)), none, 256, 1, []⟩])
 (.seq (.seq (.reg [⟨(some 3), .faddr 0 (.t 1), none, 65536, 0, []⟩,
   ⟨(some 4), .load 2 true (.t 3), none, 65792, 1, []⟩,
   ⟨(some 5), .call 98 [(.t 4)] true, none, 66048, 2, []⟩,
   ⟨(some 6), .not (.t 5), none, 66304, 3, []⟩,
   ⟨(some 7), .mv (.t 6), none, 66560, 4, []⟩,
   ⟨(some 8), .faddr 2 (.t 1), (some (some 7, false)), 66816, 5, []⟩,
   ⟨(some 9), .load 2 true (.t 8), (some (some 7, false)), 67072, 6, []⟩,
   ⟨(some 10), .call 98 [(.t 9)] true, (some (some 7, false)), 67328, 7, []⟩,
   ⟨(some 11), .not (.t 10), (some (some 7, false)), 67584, 8, []⟩,
   ⟨(some 12), .pick (.t 7) (.k (.bool true)) (.t 11), none, 67840, 9, []⟩,
   ⟨(some 13), .mv (.t 12), none, 68096, 10, []⟩,
   ⟨(some 14), .faddr 2 (.t 1), (some (some 13, false)), 68352, 11, []⟩,
   ⟨(some 15), .load 2 true (.t 14), (some (some 13, false)), 68608, 12, []⟩,
   ⟨(some 16), .faddr 0 (.t 1), (some (some 13, false)), 68864, 13, []⟩,
   ⟨(some 17), .load 2 true (.t 16), (some (some 13, false)), 69120, 14, []⟩,
   ⟨(some 18), .call 83 [(.t 15), (.t 17)] true, (some (some 13, false)), 69376, 15, []⟩,
   ⟨(some 19), .not (.t 18), (some (some 13, false)), 69632, 16, []⟩,
   ⟨(some 20), .pick (.t 13) (.k (.bool true)) (.t 19), none, 69888, 17, []⟩,
   ⟨(some 21), .mv (.t 20), none, 70144, 18, []⟩,
   ⟨(some 22), .faddr 4 (.t 1), (some (some 21, false)), 70400, 19, []⟩,
   ⟨(some 23), .load 1 false (.t 22), (some (some 21, false)), 70656, 20, []⟩,
   ⟨(some 24), .call 157 [(.t 23)] true, (some (some 21, false)), 70912, 21, []⟩,
   ⟨(some 25), .not (.t 24), (some (some 21, false)), 71168, 22, []⟩,
   ⟨(some 26), .pick (.t 21) (.k (.bool true)) (.t 25), none, 71424, 23, []⟩,
   ⟨(some 27), .mv (.t 26), none, 71680, 24, []⟩,
   ⟨(some 28), .faddr 8 (.t 1), (some (some 27, false)), 71936, 25, []⟩,
   ⟨(some 29), .load 2 true (.t 28), (some (some 27, false)), 72192, 26, []⟩,
   ⟨(some 30), .call 226 [(.t 29)] true, (some (some 27, false)), 72448, 27, []⟩,
   ⟨(some 31), .not (.t 30), (some (some 27, false)), 72704, 28, []⟩,
   ⟨(some 32), .pick (.t 27) (.k (.bool true)) (.t 31), none, 72960, 29, []⟩])
 (.cond (.t 32)
  (.seq (.reg [⟨(some 2), .mv (.k (.bool false)), none, 131072, 0, []⟩])
  (.ret))
  (.skip)))
 (.seq (.reg [⟨(some 33), .faddr 5 (.t 1), none, 196608, 0, []⟩,
   ⟨(some 34), .load 1 false (.t 33), none, 196864, 1, []⟩,
   ⟨(some 35), .mv (.t 34), none, 197120, 2, []⟩,
   ⟨(some 36), .faddr 6 (.t 1), (some (some 35, true)), 197376, 3, []⟩,
   ⟨(some 37), .load 1 false (.t 36), (some (some 35, true)), 197632, 4, []⟩,
   ⟨(some 38), .bin .eql (.t 37) (.k (.int .i64 0)), (some (some 35, true)), 197888, 5, []⟩,
   ⟨(some 39), .pick (.t 35) (.t 38) (.k (.bool false)), none, 198144, 6, []⟩,
   ⟨(some 40), .mv (.t 39), none, 198400, 7, []⟩,
   ⟨(some 41), .faddr 7 (.t 1), (some (some 40, true)), 198656, 8, []⟩,
   ⟨(some 42), .load 1 false (.t 41), (some (some 40, true)), 198912, 9, []⟩,
   ⟨(some 43), .bin .eql (.t 42) (.k (.int .i64 0)), (some (some 40, true)), 199168, 10, []⟩,
   ⟨(some 44), .pick (.t 40) (.t 43) (.k (.bool false)), none, 199424, 11, []⟩,
   ⟨(some 45), .mv (.t 44), none, 199680, 12, []⟩,
   ⟨(some 46), .faddr 5 (.t 1), (some (some 45, false)), 199936, 13, []⟩,
   ⟨(some 47), .load 1 false (.t 46), (some (some 45, false)), 200192, 14, []⟩,
   ⟨(some 48), .not (.t 47), (some (some 45, false)), 200448, 15, []⟩,
   ⟨(some 49), .mv (.t 48), (some (some 45, false)), 200704, 16, []⟩,
   ⟨(some 50), .faddr 6 (.t 1), (some (some 49, true)), 200960, 17, []⟩,
   ⟨(some 51), .load 1 false (.t 50), (some (some 49, true)), 201216, 18, []⟩,
   ⟨(some 52), .call 97 [(.t 51), (.k (.int .i64 0)), (.k (.int .i64 64))] true, (some (some 49, true)), 201472, 19, []⟩,
   ⟨(some 53), .pick (.t 49) (.t 52) (.k (.bool false)), (some (some 45, false)), 201728, 20, []⟩,
   ⟨(some 54), .mv (.t 53), (some (some 45, false)), 201984, 21, []⟩,
   ⟨(some 55), .faddr 7 (.t 1), (some (some 54, true)), 202240, 22, []⟩,
   ⟨(some 56), .load 1 false (.t 55), (some (some 54, true)), 202496, 23, []⟩,
   ⟨(some 57), .call 159 [(.t 56)] true, (some (some 54, true)), 202752, 24, []⟩,
   ⟨(some 58), .pick (.t 54) (.t 57) (.k (.bool false)), (some (some 45, false)), 203008, 25, []⟩,
   ⟨(some 59), .pick (.t 45) (.k (.bool true)) (.t 58), none, 203264, 26, []⟩,
   ⟨(some 2), .mv (.t 59), none, 203520, 27, []⟩])
 (.ret)))⟩
def F175 : F := ⟨2, 64, [.t 4],
 .seq (.reg [⟨(some 3), .box (.t 1), none, 0, 0, []⟩,
   ⟨(some 4), .nil0 true 5, none, 256, 1, []⟩])
 (.seq (.reg [⟨(some 5), .mv (.k (.int .i64 0)), none, 65536, 0, []⟩])
 (.seq (.block 0 (.loop [0, 3, 5] [0, 1, 2, 3, 4, 5, 256, 262144, 263168, 395776, 396032, 590848]
  (.seq (.seq (.reg [⟨(some 7), .mv (.t 5), none, 131072, 0, []⟩,
    ⟨(some 8), .mv (.t 0), none, 131328, 1, []⟩,
    ⟨(some 9), .len false (.t 8), none, 131584, 2, []⟩,
    ⟨(some 10), .bin .lss (.t 7) (.t 9), none, 131840, 3, []⟩,
    ⟨(some 11), .mv (.t 10), none, 132096, 4, []⟩,
    ⟨(some 12), .mv (.t 0), (some (some 11, true)), 132352, 5, []⟩,
    ⟨(some 13), .mv (.t 5), (some (some 11, true)), 132608, 6, []⟩,
    ⟨(some 14), .iaddr 5 (.t 12) (.t 13), (some (some 11, true)), 132864, 7, []⟩,
    ⟨(some 15), .faddr 0 (.t 14), (some (some 11, true)), 133120, 8, []⟩,
    ⟨(some 16), .load 1 false (.t 15), (some (some 11, true)), 133376, 9, []⟩,
    ⟨(some 17), .faddr 4 (.t 3), (some (some 11, true)), 133632, 10, []⟩,
    ⟨(some 18), .load 1 false (.t 17), (some (some 11, true)), 133888, 11, []⟩,
    ⟨(some 19), .bin .lss (.t 16) (.t 18), (some (some 11, true)), 134144, 12, []⟩,
    ⟨(some 20), .pick (.t 11) (.t 19) (.k (.bool false)), none, 134400, 13, []⟩])
  (.cond (.t 20)
   (.skip)
   (.exit 0)))
  (.block 1 (.reg [⟨(some 21), .mv (.t 5), none, 196608, 0, []⟩,
    ⟨(some 22), .bin .add (.t 21) (.k (.int .i64 1)), none, 196864, 1, []⟩,
    ⟨(some 5), .mv (.t 22), none, 197120, 2, []⟩])))))
 (.seq (.reg [⟨(some 23), .bslice true 5 [(.str ByteArray.empty), (.int .i64 0), (.int .i64 0), (.int .i64 0), (.int .i64 0)] 0 [], none, 262144, 0, []⟩,
   ⟨(some 24), .mv (.t 0), none, 262400, 1, []⟩,
   ⟨(some 25), .mv (.t 5), none, 262656, 2, []⟩,
   ⟨(some 26), .cut 5 (.t 24) none (some (.t 25)), none, 262912, 3, []⟩,
   ⟨(some 27), .app true 5 48 (.t 23) (.t 26), none, 263168, 4, []⟩,
   ⟨(some 6), .mv (.t 27), none, 263424, 5, []⟩])
 (.seq (.seq (.reg [⟨(some 28), .faddr 5 (.t 3), none, 327680, 0, []⟩,
   ⟨(some 29), .load 1 false (.t 28), none, 327936, 1, []⟩,
   ⟨(some 30), .not (.t 29), none, 328192, 2, []⟩])
 (.cond (.t 30)
  (.reg [⟨(some 31), .mv (.t 6), none, 393216, 0, []⟩,
    ⟨(some 32), .faddr 4 (.t 3), none, 393472, 1, []⟩,
    ⟨(some 33), .load 1 false (.t 32), none, 393728, 2, []⟩,
    ⟨(some 34), .faddr 0 (.t 3), none, 393984, 3, []⟩,
    ⟨(some 35), .load 2 true (.t 34), none, 394240, 4, []⟩,
    ⟨(some 36), .faddr 6 (.t 3), none, 394496, 5, []⟩,
    ⟨(some 37), .load 1 false (.t 36), none, 394752, 6, []⟩,
    ⟨(some 38), .faddr 7 (.t 3), none, 395008, 7, []⟩,
    ⟨(some 39), .load 1 false (.t 38), none, 395264, 8, []⟩,
    ⟨(some 40), .build [(.str ByteArray.empty), (.int .i64 0), (.int .i64 0), (.int .i64 0), (.int .i64 0)] [(0, 1, (.t 33)), (1, 2, (.t 35)), (3, 1, (.t 37)), (4, 1, (.t 39))], none, 395520, 9, []⟩,
    ⟨(some 41), .bslice true 5 [(.str ByteArray.empty), (.int .i64 0), (.int .i64 0), (.int .i64 0), (.int .i64 0)] 1 [(0, (.t 40))], none, 395776, 10, []⟩,
    ⟨(some 42), .app true 5 48 (.t 31) (.t 41), none, 396032, 11, []⟩,
    ⟨(some 6), .mv (.t 42), none, 396288, 12, []⟩])
  (.skip)))
 (.seq (.seq (.reg [⟨(some 43), .mv (.t 5), none, 458752, 0, []⟩,
   ⟨(some 44), .mv (.t 0), none, 459008, 1, []⟩,
   ⟨(some 45), .len false (.t 44), none, 459264, 2, []⟩,
   ⟨(some 46), .bin .lss (.t 43) (.t 45), none, 459520, 3, []⟩,
   ⟨(some 47), .mv (.t 46), none, 459776, 4, []⟩,
   ⟨(some 48), .mv (.t 0), (some (some 47, true)), 460032, 5, []⟩,
   ⟨(some 49), .mv (.t 5), (some (some 47, true)), 460288, 6, []⟩,
   ⟨(some 50), .iaddr 5 (.t 48) (.t 49), (some (some 47, true)), 460544, 7, []⟩,
   ⟨(some 51), .faddr 0 (.t 50), (some (some 47, true)), 460800, 8, []⟩,
   ⟨(some 52), .load 1 false (.t 51), (some (some 47, true)), 461056, 9, []⟩,
   ⟨(some 53), .faddr 4 (.t 3), (some (some 47, true)), 461312, 10, []⟩,
   ⟨(some 54), .load 1 false (.t 53), (some (some 47, true)), 461568, 11, []⟩,
   ⟨(some 55), .bin .eql (.t 52) (.t 54), (some (some 47, true)), 461824, 12, []⟩,
   ⟨(some 56), .pick (.t 47) (.t 55) (.k (.bool false)), none, 462080, 13, []⟩])
 (.cond (.t 56)
  (.reg [⟨(some 57), .mv (.t 5), none, 524288, 0, []⟩,
    ⟨(some 58), .bin .add (.t 57) (.k (.int .i64 1)), none, 524544, 1, []⟩,
    ⟨(some 5), .mv (.t 58), none, 524800, 2, []⟩])
  (.skip)))
 (.seq (.reg [⟨(some 59), .mv (.t 6), none, 589824, 0, []⟩,
   ⟨(some 60), .mv (.t 0), none, 590080, 1, []⟩,
   ⟨(some 61), .mv (.t 5), none, 590336, 2, []⟩,
   ⟨(some 62), .cut 5 (.t 60) (some (.t 61)) none, none, 590592, 3, []⟩,
   ⟨(some 63), .app true 5 48 (.t 59) (.t 62), none, 590848, 4, []⟩,
   ⟨(some 4), .mv (.t 63), none, 591104, 5, []⟩])
 (.ret)))))))⟩
def F176 : F := ⟨1, 16, [.t 2],
 .seq (.reg [⟨(some 1), .box (.t 0), none, 0, 0, []⟩,
   ⟨(some 2), .mv (.k (.bool false)), none, 256, 1, []⟩])
 (.seq (.reg [⟨(some 3), .load 2 true (.t 1), none, 65536, 0, []⟩,
   ⟨(some 4), .build [(.int .i64 0), (.int .i64 0)] [], none, 65792, 1, []⟩,
   ⟨(some 5), .eqv false true [.i, .i] (.t 3) (.t 4), none, 66048, 2, []⟩,
   ⟨(some 6), .mv (.t 5), none, 66304, 3, []⟩,
   ⟨(some 7), .faddr 0 (.t 1), (some (some 6, false)), 66560, 4, []⟩,
   ⟨(some 8), .load 1 false (.t 7), (some (some 6, false)), 66816, 5, []⟩,
   ⟨(some 9), .call 227 [(.t 8)] true, (some (some 6, false)), 67072, 6, []⟩,
   ⟨(some 10), .mv (.t 9), (some (some 6, false)), 67328, 7, []⟩,
   ⟨(some 11), .faddr 1 (.t 1), (some (some 10, true)), 67584, 8, []⟩,
   ⟨(some 12), .load 1 false (.t 11), (some (some 10, true)), 67840, 9, []⟩,
   ⟨(some 13), .call 142 [(.t 12), (.k (.int .i64 1)), (.k (.int .i64 1000))] true, (some (some 10, true)), 68096, 10, []⟩,
   ⟨(some 14), .pick (.t 10) (.t 13) (.k (.bool false)), (some (some 6, false)), 68352, 11, []⟩,
   ⟨(some 15), .pick (.t 6) (.k (.bool true)) (.t 14), none, 68608, 12, []⟩,
   ⟨(some 2), .mv (.t 15), none, 68864, 13, []⟩])
 (.ret))⟩
def F177 : F := ⟨2, 11, [.t 4],
 .seq (.reg [⟨(some 4), .mv (.k (.bool false)), none, 0, 0, []⟩])
 (.seq (.reg [⟨(some 5), .mv (.t 0), none, 65536, 0, []⟩,
   ⟨(some 6), .call 142 [(.t 5), (.k (.int .i64 0)), (.k (.int .i64 64))] true, none, 65792, 1, []⟩,
   ⟨(some 7), .mv (.t 6), none, 66048, 2, []⟩,
   ⟨(some 8), .mv (.t 1), (some (some 7, true)), 66304, 3, []⟩,
   ⟨(some 9), .call 142 [(.t 8), (.k (.int .i64 0)), (.k (.int .i64 4294967295))] true, (some (some 7, true)), 66560, 4, []⟩,
   ⟨(some 10), .pick (.t 7) (.t 9) (.k (.bool false)), none, 66816, 5, []⟩,
   ⟨(some 4), .mv (.t 10), none, 67072, 6, []⟩])
 (.ret))⟩
def F178 : F := ⟨1, 8, [.t 2],
 .seq (.reg [⟨(some 2), .nil0 true 5, none, 0, 0, []⟩])
 (.seq (.seq (.reg [⟨(some 3), .mv (.t 0), none, 65536, 0, []⟩])
 (.ifnil false 4 (.t 3)
  (.seq (.reg [⟨(some 2), .nil0 true 5, none, 131072, 0, []⟩])
  (.ret))
  (.skip)))
 (.seq (.reg [⟨(some 5), .bslice true 5 [(.str ByteArray.empty), (.int .i64 0), (.int .i64 0), (.int .i64 0), (.int .i64 0)] 0 [], none, 196608, 0, []⟩,
   ⟨(some 6), .mv (.t 0), none, 196864, 1, []⟩,
   ⟨(some 7), .app true 5 48 (.t 5) (.t 6), none, 197120, 2, []⟩,
   ⟨(some 2), .mv (.t 7), none, 197376, 3, []⟩])
 (.ret)))⟩
def F182 : F := ⟨1, 8, [.t 2],
 .seq (.reg [⟨(some 2), .nil0 true 4, none, 0, 0, []⟩])
 (.seq (.seq (.reg [⟨(some 3), .mv (.t 0), none, 65536, 0, []⟩])
 (.ifnil false 4 (.t 3)
  (.seq (.reg [⟨(some 2), .nil0 true 4, none, 131072, 0, []⟩])
  (.ret))
  (.skip)))
 (.seq (.reg [⟨(some 5), .bslice true 4 [(.int .i64 0), (.int .i64 0), (.int .i64 0), (.int .i64 0)] 0 [], none, 196608, 0, []⟩,
   ⟨(some 6), .mv (.t 0), none, 196864, 1, []⟩,
   ⟨(some 7), .app true 4 32 (.t 5) (.t 6), none, 197120, 2, []⟩,
   ⟨(some 2), .mv (.t 7), none, 197376, 3, []⟩])
 (.ret)))⟩
def F185 : F := ⟨2, 20, [.t 4],
 .seq (.reg [⟨(some 4), .mv (.k (.int .i64 0)), none, 0, 0, []⟩])
 (.seq (.reg [⟨(some 7), .mv (.t 0), none, 65536, 0, []⟩,
   ⟨(some 8), .call 232 [(.t 7)] true, none, 65792, 1, []⟩,
   ⟨(some 5), .mv (.t 8), none, 66048, 2, []⟩])
 (.seq (.reg [⟨(some 9), .mv (.t 1), none, 131072, 0, []⟩,
   ⟨(some 10), .call 232 [(.t 9)] true, none, 131328, 1, []⟩,
   ⟨(some 6), .mv (.t 10), none, 131584, 2, []⟩])
 (.seq (.seq (.reg [⟨(some 11), .mv (.t 5), none, 196608, 0, []⟩])
 (.cond (.t 11)
  (.seq (.seq (.reg [⟨(some 12), .mv (.t 6), none, 262144, 0, []⟩])
  (.cond (.t 12)
   (.seq (.reg [⟨(some 4), .mv (.k (.int .i64 0)), none, 327680, 0, []⟩])
   (.ret))
   (.skip)))
  (.seq (.reg [⟨(some 4), .mv (.k (.int .i64 (-1))), none, 393216, 0, []⟩])
  (.ret)))
  (.skip)))
 (.seq (.seq (.reg [⟨(some 13), .mv (.t 6), none, 458752, 0, []⟩])
 (.cond (.t 13)
  (.seq (.reg [⟨(some 4), .mv (.k (.int .i64 1)), none, 524288, 0, []⟩])
  (.ret))
  (.skip)))
 (.seq (.seq (.reg [⟨(some 14), .mv (.t 0), none, 589824, 0, []⟩,
   ⟨(some 15), .mv (.t 1), none, 590080, 1, []⟩,
   ⟨(some 16), .bin .lss (.t 14) (.t 15), none, 590336, 2, []⟩])
 (.cond (.t 16)
  (.seq (.reg [⟨(some 4), .mv (.k (.int .i64 (-1))), none, 655360, 0, []⟩])
  (.ret))
  (.skip)))
 (.seq (.seq (.reg [⟨(some 17), .mv (.t 0), none, 720896, 0, []⟩,
   ⟨(some 18), .mv (.t 1), none, 721152, 1, []⟩,
   ⟨(some 19), .bin .gtr (.t 17) (.t 18), none, 721408, 2, []⟩])
 (.cond (.t 19)
  (.seq (.reg [⟨(some 4), .mv (.k (.int .i64 1)), none, 786432, 0, []⟩])
  (.ret))
  (.skip)))
 (.seq (.reg [⟨(some 4), .mv (.k (.int .i64 0)), none, 851968, 0, []⟩])
 (.ret))))))))⟩
def F187 : F := ⟨1, 9, [.cell 2 10 true],
 .seq (.reg [⟨(some 2), .alloc [(.int .i64 0), (.int .i64 0), (.int .i64 0), (.int .i64 0), (.str ByteArray.empty), (.bool false), (.int .i64 0), (.int .i64 0), (.int .i64 0), (.int .i64 0)], none, 0, 0, []⟩])
 (.seq (.reg [⟨(some 3), .mv (.t 0), none, 65536, 0, []⟩,
   ⟨(some 4), .mv (.t 0), none, 65792, 1, []⟩,
   ⟨(some 5), .len false (.t 4), none, 66048, 2, []⟩,
   ⟨(some 6), .bin .sub (.t 5) (.k (.int .i64 1)), none, 66304, 3, []⟩,
   ⟨(some 7), .iaddr 10 (.t 3) (.t 6), none, 66560, 4, []⟩,
   ⟨(some 8), .load 10 true (.t 7), none, 66816, 5, []⟩,
   ⟨none, .store 10 (.t 2) (.t 8), none, 67072, 6, []⟩])
 (.ret))⟩
def F188 : F := ⟨1, 18, [.t 2],
 .seq (.reg [⟨(some 2), .mv (.k (.int .i64 0)), none, 0, 0, []⟩])
 (.seq (.reg [⟨(some 3), .mv (.k (.int .i64 0)), none, 65536, 0, []⟩])
 (.seq (.seq (.reg [⟨(some 6), .mv (.t 0), none, 131072, 0, []⟩,
   ⟨(some 7), .len false (.t 6), none, 131328, 1, []⟩,
   ⟨(some 8), .mv (.k (.int .i64 0)), none, 131584, 2, []⟩])
 (.block 0 (.loop [3, 6, 7, 8] []
  (.seq (.reg [⟨(some 9), .bin .lss (.t 8) (.t 7), none, 196608, 0, []⟩])
  (.seq (.cond (.t 9)
   (.skip)
   (.exit 0))
  (.seq (.block 1 (.seq (.reg [⟨(some 10), .iaddr 1 (.t 6) (.t 8), none, 262144, 0, []⟩,
    ⟨(some 11), .load 1 false (.t 10), none, 262400, 1, []⟩,
    ⟨(some 5), .mv (.t 11), none, 262656, 2, []⟩])
  (.seq (.reg [⟨(some 12), .mv (.t 5), none, 327680, 0, []⟩,
    ⟨(some 13), .mv (.t 3), none, 327936, 1, []⟩,
    ⟨(some 14), .bin .neq (.t 12) (.t 13), none, 328192, 2, []⟩])
  (.cond (.t 14)
   (.seq (.reg [⟨(some 15), .mv (.t 5), none, 393216, 0, []⟩,
     ⟨(some 2), .mv (.t 15), none, 393472, 1, []⟩])
   (.ret))
   (.skip)))))
  (.reg [⟨(some 16), .bin .add (.t 8) (.k (.int .i64 1)), none, 458752, 0, []⟩,
    ⟨(some 8), .mv (.t 16), none, 459008, 1, []⟩])))))))
 (.seq (.reg [⟨(some 17), .mv (.t 3), none, 524288, 0, []⟩,
   ⟨(some 2), .mv (.t 17), none, 524544, 1, []⟩])
 (.ret))))⟩
def F189 : F := ⟨1, 8, [.t 2],
 .seq (.reg [⟨(some 2), .nil0 true 10, none, 0, 0, []⟩])
 (.seq (.seq (.reg [⟨(some 3), .mv (.t 0), none, 65536, 0, []⟩])
 (.ifnil false 4 (.t 3)
  (.seq (.reg [⟨(some 2), .nil0 true 10, none, 131072, 0, []⟩])
  (.ret))
  (.skip)))
 (.seq (.reg [⟨(some 5), .bslice true 10 [(.int .i64 0), (.int .i64 0), (.int .i64 0), (.int .i64 0), (.str ByteArray.empty), (.bool false), (.int .i64 0), (.int .i64 0), (.int .i64 0), (.int .i64 0)] 0 [], none, 196608, 0, []⟩,
   ⟨(some 6), .mv (.t 0), none, 196864, 1, []⟩,
   ⟨(some 7), .app true 10 88 (.t 5) (.t 6), none, 197120, 2, []⟩,
   ⟨(some 2), .mv (.t 7), none, 197376, 3, []⟩])
 (.ret)))⟩
def F204 : F := ⟨1, 42, [.t 2],
 .seq (.reg [⟨(some 2), .mv (.k (.bool false)), none, 0, 0, []⟩])
 (.seq (.seq (.reg [⟨(some 3), .mv (.k (.int .i64 0)), none, 65536, 0, []⟩])
 (.block 0 (.loop [0, 3] []
  (.seq (.seq (.reg [⟨(some 4), .mv (.t 3), none, 131072, 0, []⟩,
    ⟨(some 5), .mv (.t 0), none, 131328, 1, []⟩,
    ⟨(some 6), .len false (.t 5), none, 131584, 2, []⟩,
    ⟨(some 7), .bin .lss (.t 4) (.t 6), none, 131840, 3, []⟩,
    ⟨(some 8), .mv (.t 7), none, 132096, 4, []⟩,
    ⟨(some 9), .mv (.t 3), (some (some 8, true)), 132352, 5, []⟩,
    ⟨(some 10), .bin .leq (.t 9) (.k (.int .i64 8)), (some (some 8, true)), 132608, 6, []⟩,
    ⟨(some 11), .pick (.t 8) (.t 10) (.k (.bool false)), none, 132864, 7, []⟩])
  (.cond (.t 11)
   (.skip)
   (.exit 0)))
  (.seq (.block 1 (.seq (.reg [⟨(some 14), .mv (.t 0), none, 262144, 0, []⟩,
    ⟨(some 15), .mv (.t 3), none, 262400, 1, []⟩,
    ⟨(some 16), .iaddr 12 (.t 14) (.t 15), none, 262656, 2, []⟩,
    ⟨(some 17), .load 12 true (.t 16), none, 262912, 3, []⟩,
    ⟨(some 18), .call 29 [(.t 17)] true, none, 263168, 4, []⟩,
    ⟨(some 19), .not (.t 18), none, 263424, 5, []⟩,
    ⟨(some 20), .mv (.t 19), none, 263680, 6, []⟩,
    ⟨(some 21), .mv (.t 3), (some (some 20, false)), 263936, 7, []⟩,
    ⟨(some 22), .bin .gtr (.t 21) (.k (.int .i64 0)), (some (some 20, false)), 264192, 8, []⟩,
    ⟨(some 23), .mv (.t 22), (some (some 20, false)), 264448, 9, []⟩,
    ⟨(some 24), .mv (.t 0), (some (some 23, true)), 264704, 10, []⟩,
    ⟨(some 25), .mv (.t 3), (some (some 23, true)), 264960, 11, []⟩,
    ⟨(some 26), .bin .sub (.t 25) (.k (.int .i64 1)), (some (some 23, true)), 265216, 12, []⟩,
    ⟨(some 27), .iaddr 12 (.t 24) (.t 26), (some (some 23, true)), 265472, 13, []⟩,
    ⟨(some 28), .faddr 0 (.t 27), (some (some 23, true)), 265728, 14, []⟩,
    ⟨(some 29), .load 2 true (.t 28), (some (some 23, true)), 265984, 15, []⟩,
    ⟨(some 30), .mv (.t 0), (some (some 23, true)), 266240, 16, []⟩,
    ⟨(some 31), .mv (.t 3), (some (some 23, true)), 266496, 17, []⟩,
    ⟨(some 32), .iaddr 12 (.t 30) (.t 31), (some (some 23, true)), 266752, 18, []⟩,
    ⟨(some 33), .faddr 0 (.t 32), (some (some 23, true)), 267008, 19, []⟩,
    ⟨(some 34), .load 2 true (.t 33), (some (some 23, true)), 267264, 20, []⟩,
    ⟨(some 35), .call 242 [(.t 29), (.t 34)] true, (some (some 23, true)), 267520, 21, []⟩,
    ⟨(some 36), .not (.t 35), (some (some 23, true)), 267776, 22, []⟩,
    ⟨(some 37), .pick (.t 23) (.t 36) (.k (.bool false)), (some (some 20, false)), 268032, 23, []⟩,
    ⟨(some 38), .pick (.t 20) (.k (.bool true)) (.t 37), none, 268288, 24, []⟩])
  (.cond (.t 38)
   (.seq (.reg [⟨(some 2), .mv (.k (.bool false)), none, 327680, 0, []⟩])
   (.ret))
   (.skip))))
  (.reg [⟨(some 12), .mv (.t 3), none, 196608, 0, []⟩,
    ⟨(some 13), .bin .add (.t 12) (.k (.int .i64 1)), none, 196864, 1, []⟩,
    ⟨(some 3), .mv (.t 13), none, 197120, 2, []⟩]))))))
 (.seq (.reg [⟨(some 39), .mv (.t 0), none, 393216, 0, []⟩,
   ⟨(some 40), .len false (.t 39), none, 393472, 1, []⟩,
   ⟨(some 41), .bin .leq (.t 40) (.k (.int .i64 8)), none, 393728, 2, []⟩,
   ⟨(some 2), .mv (.t 41), none, 393984, 3, []⟩])
 (.ret)))⟩
def F205 : F := ⟨1, 35, [.t 2],
 .seq (.reg [⟨(some 2), .mv (.k (.bool false)), none, 0, 0, []⟩])
 (.seq (.seq (.reg [⟨(some 5), .mv (.t 0), none, 65536, 0, []⟩,
   ⟨(some 6), .len false (.t 5), none, 65792, 1, []⟩,
   ⟨(some 7), .mv (.k (.int .i64 0)), none, 66048, 2, []⟩])
 (.block 0 (.loop [0, 5, 6, 7] []
  (.seq (.reg [⟨(some 8), .bin .lss (.t 7) (.t 6), none, 131072, 0, []⟩])
  (.seq (.cond (.t 8)
   (.skip)
   (.exit 0))
  (.seq (.block 1 (.seq (.reg [⟨(some 9), .mv (.t 7), none, 196608, 0, []⟩,
    ⟨(some 10), .iaddr 12 (.t 5) (.t 7), none, 196864, 1, []⟩,
    ⟨(some 11), .load 12 true (.t 10), none, 197120, 2, []⟩,
    ⟨(some 4), .alloc [(.int .i64 0), (.int .i64 0), (.int .i64 0), (.int .i64 0), (.int .i64 0), (.int .i64 0), (.nil true 5), (.nil true 4), (.nil true 10), (.int .i64 0), (.int .i64 0), (.nil true 6)], none, 197376, 3, []⟩,
    ⟨(some 3), .mv (.t 9), none, 197632, 4, []⟩,
    ⟨none, .store 12 (.t 4) (.t 11), none, 197888, 5, []⟩])
  (.seq (.reg [⟨(some 12), .load 12 true (.t 4), none, 262144, 0, []⟩,
    ⟨(some 13), .call 66 [(.t 12)] true, none, 262400, 1, []⟩,
    ⟨(some 14), .not (.t 13), none, 262656, 2, []⟩,
    ⟨(some 15), .mv (.t 14), none, 262912, 3, []⟩,
    ⟨(some 16), .mv (.t 3), (some (some 15, false)), 263168, 4, []⟩,
    ⟨(some 17), .bin .gtr (.t 16) (.k (.int .i64 0)), (some (some 15, false)), 263424, 5, []⟩,
    ⟨(some 18), .mv (.t 17), (some (some 15, false)), 263680, 6, []⟩,
    ⟨(some 19), .mv (.t 0), (some (some 18, true)), 263936, 7, []⟩,
    ⟨(some 20), .mv (.t 3), (some (some 18, true)), 264192, 8, []⟩,
    ⟨(some 21), .bin .sub (.t 20) (.k (.int .i64 1)), (some (some 18, true)), 264448, 9, []⟩,
    ⟨(some 22), .iaddr 12 (.t 19) (.t 21), (some (some 18, true)), 264704, 10, []⟩,
    ⟨(some 23), .faddr 0 (.t 22), (some (some 18, true)), 264960, 11, []⟩,
    ⟨(some 24), .load 2 true (.t 23), (some (some 18, true)), 265216, 12, []⟩,
    ⟨(some 25), .faddr 0 (.t 4), (some (some 18, true)), 265472, 13, []⟩,
    ⟨(some 26), .load 2 true (.t 25), (some (some 18, true)), 265728, 14, []⟩,
    ⟨(some 27), .call 243 [(.t 24), (.t 26)] true, (some (some 18, true)), 265984, 15, []⟩,
    ⟨(some 28), .bin .geq (.t 27) (.k (.int .i64 0)), (some (some 18, true)), 266240, 16, []⟩,
    ⟨(some 29), .pick (.t 18) (.t 28) (.k (.bool false)), (some (some 15, false)), 266496, 17, []⟩,
    ⟨(some 30), .pick (.t 15) (.k (.bool true)) (.t 29), none, 266752, 18, []⟩])
  (.cond (.t 30)
   (.seq (.reg [⟨(some 2), .mv (.k (.bool false)), none, 327680, 0, []⟩])
   (.ret))
   (.skip)))))
  (.reg [⟨(some 31), .bin .add (.t 7) (.k (.int .i64 1)), none, 393216, 0, []⟩,
    ⟨(some 7), .mv (.t 31), none, 393472, 1, []⟩])))))))
 (.seq (.reg [⟨(some 32), .mv (.t 0), none, 458752, 0, []⟩,
   ⟨(some 33), .len false (.t 32), none, 459008, 1, []⟩,
   ⟨(some 34), .bin .leq (.t 33) (.k (.int .i64 8)), none, 459264, 2, []⟩,
   ⟨(some 2), .mv (.t 34), none, 459520, 3, []⟩])
 (.ret)))⟩
def F206 : F := ⟨1, 11, [.cell 2 2 true],
 .seq (.reg [⟨(some 1), .box (.t 0), none, 0, 0, []⟩,
   ⟨(some 2), .alloc [(.int .i64 0), (.int .i64 0)], none, 256, 1, []⟩])
 (.seq (.reg [⟨(some 3), .alloc [(.int .i64 0), (.int .i64 0)], none, 65536, 0, []⟩])
 (.seq (.reg [⟨(some 4), .faddr 0 (.t 1), none, 131072, 0, []⟩,
   ⟨(some 5), .load 1 false (.t 4), none, 131328, 1, []⟩,
   ⟨(some 6), .faddr 0 (.t 3), none, 131584, 2, []⟩,
   ⟨none, .store 1 (.t 6) (.t 5), none, 131840, 3, []⟩])
 (.seq (.reg [⟨(some 7), .faddr 1 (.t 1), none, 196608, 0, []⟩,
   ⟨(some 8), .load 1 false (.t 7), none, 196864, 1, []⟩,
   ⟨(some 9), .faddr 1 (.t 3), none, 197120, 2, []⟩,
   ⟨none, .store 1 (.t 9) (.t 8), none, 197376, 3, []⟩])
 (.seq (.reg [⟨(some 10), .load 2 true (.t 3), none, 262144, 0, []⟩,
   ⟨none, .store 2 (.t 2) (.t 10), none, 262400, 1, []⟩])
 (.ret)))))⟩
def F207 : F := ⟨2, 19, [.t 4],
 .seq (.reg [⟨(some 2), .box (.t 0), none, 0, 0, []⟩,
   ⟨(some 3), .box (.t 1), none, 256, 1, []⟩,
   ⟨(some 4), .mv (.k (.bool false)), none, 512, 2, []⟩])
 (.seq (.reg [⟨(some 5), .load 2 true (.t 3), none, 65536, 0, []⟩,
   ⟨(some 6), .call 143 [(.t 5)] true, none, 65792, 1, []⟩,
   ⟨(some 7), .mv (.t 6), none, 66048, 2, []⟩,
   ⟨(some 8), .load 2 true (.t 3), (some (some 7, true)), 66304, 3, []⟩,
   ⟨(some 9), .build [(.int .i64 0), (.int .i64 0)] [], (some (some 7, true)), 66560, 4, []⟩,
   ⟨(some 10), .eqv true true [.i, .i] (.t 8) (.t 9), (some (some 7, true)), 66816, 5, []⟩,
   ⟨(some 11), .pick (.t 7) (.t 10) (.k (.bool false)), none, 67072, 6, []⟩,
   ⟨(some 12), .mv (.t 11), none, 67328, 7, []⟩,
   ⟨(some 13), .faddr 4 (.t 2), (some (some 12, true)), 67584, 8, []⟩,
   ⟨(some 14), .load 2 true (.t 13), (some (some 12, true)), 67840, 9, []⟩,
   ⟨(some 15), .load 2 true (.t 3), (some (some 12, true)), 68096, 10, []⟩,
   ⟨(some 16), .call 38 [(.t 14), (.t 15)] true, (some (some 12, true)), 68352, 11, []⟩,
   ⟨(some 17), .not (.t 16), (some (some 12, true)), 68608, 12, []⟩,
   ⟨(some 18), .pick (.t 12) (.t 17) (.k (.bool false)), none, 68864, 13, []⟩,
   ⟨(some 4), .mv (.t 18), none, 69120, 14, []⟩])
 (.ret))⟩
def F208 : F := ⟨1, 8, [.t 2],
 .seq (.reg [⟨(some 2), .nil0 true 6, none, 0, 0, []⟩])
 (.seq (.seq (.reg [⟨(some 3), .mv (.t 0), none, 65536, 0, []⟩])
 (.ifnil false 4 (.t 3)
  (.seq (.reg [⟨(some 2), .nil0 true 6, none, 131072, 0, []⟩])
  (.ret))
  (.skip)))
 (.seq (.reg [⟨(some 5), .bslice true 6 [(.str ByteArray.empty), (.int .i64 0), (.int .i64 0), (.int .i64 0), (.int .i64 0), (.str ByteArray.empty)] 0 [], none, 196608, 0, []⟩,
   ⟨(some 6), .mv (.t 0), none, 196864, 1, []⟩,
   ⟨(some 7), .app true 6 64 (.t 5) (.t 6), none, 197120, 2, []⟩,
   ⟨(some 2), .mv (.t 7), none, 197376, 3, []⟩])
 (.ret)))⟩
def F214 : F := ⟨2, 15, [.t 4],
 .seq (.reg [⟨(some 2), .box (.t 0), none, 0, 0, []⟩,
   ⟨(some 3), .box (.t 1), none, 256, 1, []⟩,
   ⟨(some 4), .mv (.k (.bool false)), none, 512, 2, []⟩])
 (.seq (.seq (.reg [⟨(some 5), .faddr 0 (.t 2), none, 65536, 0, []⟩,
   ⟨(some 6), .load 1 false (.t 5), none, 65792, 1, []⟩,
   ⟨(some 7), .faddr 0 (.t 3), none, 66048, 2, []⟩,
   ⟨(some 8), .load 1 false (.t 7), none, 66304, 3, []⟩,
   ⟨(some 9), .bin .neq (.t 6) (.t 8), none, 66560, 4, []⟩])
 (.cond (.t 9)
  (.seq (.reg [⟨(some 4), .mv (.k (.bool false)), none, 131072, 0, []⟩])
  (.ret))
  (.skip)))
 (.seq (.seq (.reg [⟨(some 10), .faddr 1 (.t 2), none, 196608, 0, []⟩,
   ⟨(some 11), .load 1 false (.t 10), none, 196864, 1, []⟩,
   ⟨(some 12), .faddr 1 (.t 3), none, 197120, 2, []⟩,
   ⟨(some 13), .load 1 false (.t 12), none, 197376, 3, []⟩,
   ⟨(some 14), .bin .neq (.t 11) (.t 13), none, 197632, 4, []⟩])
 (.cond (.t 14)
  (.seq (.reg [⟨(some 4), .mv (.k (.bool false)), none, 262144, 0, []⟩])
  (.ret))
  (.skip)))
 (.seq (.reg [⟨(some 4), .mv (.k (.bool true)), none, 327680, 0, []⟩])
 (.ret))))⟩
def F217 : F := ⟨1, 36, [.t 2],
 .seq (.reg [⟨(some 2), .mv (.k (.bool false)), none, 0, 0, []⟩])
 (.seq (.seq (.reg [⟨(some 5), .mv (.t 0), none, 65536, 0, []⟩,
   ⟨(some 6), .len true (.t 5), none, 65792, 1, []⟩,
   ⟨(some 7), .bin .lss (.t 6) (.k (.int .i64 1)), none, 66048, 2, []⟩,
   ⟨(some 8), .mv (.t 7), none, 66304, 3, []⟩,
   ⟨(some 9), .mv (.t 0), (some (some 8, false)), 66560, 4, []⟩,
   ⟨(some 10), .len true (.t 9), (some (some 8, false)), 66816, 5, []⟩,
   ⟨(some 11), .bin .gtr (.t 10) (.k (.int .i64 8)), (some (some 8, false)), 67072, 6, []⟩,
   ⟨(some 12), .pick (.t 8) (.k (.bool true)) (.t 11), none, 67328, 7, []⟩])
 (.cond (.t 12)
  (.seq (.reg [⟨(some 2), .mv (.k (.bool false)), none, 131072, 0, []⟩])
  (.ret))
  (.skip)))
 (.seq (.seq (.reg [⟨(some 3), .mv (.k (.int .i64 0)), none, 196608, 0, []⟩])
 (.block 0 (.loop [0, 3] []
  (.seq (.seq (.reg [⟨(some 13), .mv (.t 3), none, 262144, 0, []⟩,
    ⟨(some 14), .mv (.t 0), none, 262400, 1, []⟩,
    ⟨(some 15), .len true (.t 14), none, 262656, 2, []⟩,
    ⟨(some 16), .bin .lss (.t 13) (.t 15), none, 262912, 3, []⟩])
  (.cond (.t 16)
   (.skip)
   (.exit 0)))
  (.seq (.block 1 (.seq (.reg [⟨(some 19), .mv (.t 0), none, 393216, 0, []⟩,
    ⟨(some 20), .mv (.t 3), none, 393472, 1, []⟩,
    ⟨(some 21), .idx (.t 19) (.t 20), none, 393728, 2, []⟩,
    ⟨(some 4), .mv (.t 21), none, 393984, 3, []⟩])
  (.seq (.reg [⟨(some 22), .mv (.t 4), none, 458752, 0, []⟩,
    ⟨(some 23), .bin .lss (.t 22) (.k (.int .u8 97)), none, 459008, 1, []⟩,
    ⟨(some 24), .mv (.t 23), none, 459264, 2, []⟩,
    ⟨(some 25), .mv (.t 4), (some (some 24, false)), 459520, 3, []⟩,
    ⟨(some 26), .bin .gtr (.t 25) (.k (.int .u8 122)), (some (some 24, false)), 459776, 4, []⟩,
    ⟨(some 27), .pick (.t 24) (.k (.bool true)) (.t 26), none, 460032, 5, []⟩,
    ⟨(some 28), .mv (.t 27), none, 460288, 6, []⟩,
    ⟨(some 29), .mv (.t 4), (some (some 28, true)), 460544, 7, []⟩,
    ⟨(some 30), .bin .lss (.t 29) (.k (.int .u8 48)), (some (some 28, true)), 460800, 8, []⟩,
    ⟨(some 31), .mv (.t 30), (some (some 28, true)), 461056, 9, []⟩,
    ⟨(some 32), .mv (.t 4), (some (some 31, false)), 461312, 10, []⟩,
    ⟨(some 33), .bin .gtr (.t 32) (.k (.int .u8 57)), (some (some 31, false)), 461568, 11, []⟩,
    ⟨(some 34), .pick (.t 31) (.k (.bool true)) (.t 33), (some (some 28, true)), 461824, 12, []⟩,
    ⟨(some 35), .pick (.t 28) (.t 34) (.k (.bool false)), none, 462080, 13, []⟩])
  (.cond (.t 35)
   (.seq (.reg [⟨(some 2), .mv (.k (.bool false)), none, 524288, 0, []⟩])
   (.ret))
   (.skip)))))
  (.reg [⟨(some 17), .mv (.t 3), none, 327680, 0, []⟩,
    ⟨(some 18), .bin .add (.t 17) (.k (.int .i64 1)), none, 327936, 1, []⟩,
    ⟨(some 3), .mv (.t 18), none, 328192, 2, []⟩]))))))
 (.seq (.reg [⟨(some 2), .mv (.k (.bool true)), none, 589824, 0, []⟩])
 (.ret))))⟩
def F226 : F := ⟨1, 16, [.t 2],
 .seq (.reg [⟨(some 1), .box (.t 0), none, 0, 0, []⟩,
   ⟨(some 2), .mv (.k (.bool false)), none, 256, 1, []⟩])
 (.seq (.reg [⟨(some 3), .load 2 true (.t 1), none, 65536, 0, []⟩,
   ⟨(some 4), .build [(.int .i64 0), (.int .i64 0)] [], none, 65792, 1, []⟩,
   ⟨(some 5), .eqv false true [.i, .i] (.t 3) (.t 4), none, 66048, 2, []⟩,
   ⟨(some 6), .mv (.t 5), none, 66304, 3, []⟩,
   ⟨(some 7), .faddr 0 (.t 1), (some (some 6, false)), 66560, 4, []⟩,
   ⟨(some 8), .load 1 false (.t 7), (some (some 6, false)), 66816, 5, []⟩,
   ⟨(some 9), .call 173 [(.t 8)] true, (some (some 6, false)), 67072, 6, []⟩,
   ⟨(some 10), .mv (.t 9), (some (some 6, false)), 67328, 7, []⟩,
   ⟨(some 11), .faddr 1 (.t 1), (some (some 10, true)), 67584, 8, []⟩,
   ⟨(some 12), .load 1 false (.t 11), (some (some 10, true)), 67840, 9, []⟩,
   ⟨(some 13), .call 97 [(.t 12), (.k (.int .i64 1)), (.k (.int .i64 1000))] true, (some (some 10, true)), 68096, 10, []⟩,
   ⟨(some 14), .pick (.t 10) (.t 13) (.k (.bool false)), (some (some 6, false)), 68352, 11, []⟩,
   ⟨(some 15), .pick (.t 6) (.k (.bool true)) (.t 14), none, 68608, 12, []⟩,
   ⟨(some 2), .mv (.t 15), none, 68864, 13, []⟩])
 (.ret))⟩
def F227 : F := ⟨1, 5, [.t 2],
 .seq (.reg [⟨(some 2), .mv (.k (.bool false)), none, 0, 0, []⟩])
 (.seq (.reg [⟨(some 3), .mv (.t 0), none, 65536, 0, []⟩,
   ⟨(some 4), .call 142 [(.t 3), (.k (.int .i64 100)), (.k (.int .i64 105))] true, none, 65792, 1, []⟩,
   ⟨(some 2), .mv (.t 4), none, 66048, 2, []⟩])
 (.ret))⟩
def F232 : F := ⟨1, 6, [.t 2],
 .seq (.reg [⟨(some 2), .mv (.k (.bool false)), none, 0, 0, []⟩])
 (.seq (.reg [⟨(some 3), .mv (.t 0), none, 65536, 0, []⟩,
   ⟨(some 4), .mv (.t 0), none, 65792, 1, []⟩,
   ⟨(some 5), .bin .neq (.t 3) (.t 4), none, 66048, 2, []⟩,
   ⟨(some 2), .mv (.t 5), none, 66304, 3, []⟩])
 (.ret))⟩
def F242 : F := ⟨2, 24, [.t 4],
 .seq (.reg [⟨(some 2), .box (.t 0), none, 0, 0, []⟩,
   ⟨(some 3), .box (.t 1), none, 256, 1, []⟩,
   ⟨(some 4), .mv (.k (.bool false)), none, 512, 2, []⟩])
 (.seq (.reg [⟨(some 5), .faddr 0 (.t 2), none, 65536, 0, []⟩,
   ⟨(some 6), .load 1 false (.t 5), none, 65792, 1, []⟩,
   ⟨(some 7), .faddr 0 (.t 3), none, 66048, 2, []⟩,
   ⟨(some 8), .load 1 false (.t 7), none, 66304, 3, []⟩,
   ⟨(some 9), .bin .lss (.t 6) (.t 8), none, 66560, 4, []⟩,
   ⟨(some 10), .mv (.t 9), none, 66816, 5, []⟩,
   ⟨(some 11), .faddr 0 (.t 2), (some (some 10, false)), 67072, 6, []⟩,
   ⟨(some 12), .load 1 false (.t 11), (some (some 10, false)), 67328, 7, []⟩,
   ⟨(some 13), .faddr 0 (.t 3), (some (some 10, false)), 67584, 8, []⟩,
   ⟨(some 14), .load 1 false (.t 13), (some (some 10, false)), 67840, 9, []⟩,
   ⟨(some 15), .bin .eql (.t 12) (.t 14), (some (some 10, false)), 68096, 10, []⟩,
   ⟨(some 16), .mv (.t 15), (some (some 10, false)), 68352, 11, []⟩,
   ⟨(some 17), .faddr 1 (.t 2), (some (some 16, true)), 68608, 12, []⟩,
   ⟨(some 18), .load 1 false (.t 17), (some (some 16, true)), 68864, 13, []⟩,
   ⟨(some 19), .faddr 1 (.t 3), (some (some 16, true)), 69120, 14, []⟩,
   ⟨(some 20), .load 1 false (.t 19), (some (some 16, true)), 69376, 15, []⟩,
   ⟨(some 21), .bin .lss (.t 18) (.t 20), (some (some 16, true)), 69632, 16, []⟩,
   ⟨(some 22), .pick (.t 16) (.t 21) (.k (.bool false)), (some (some 10, false)), 69888, 17, []⟩,
   ⟨(some 23), .pick (.t 10) (.k (.bool true)) (.t 22), none, 70144, 18, []⟩,
   ⟨(some 4), .mv (.t 23), none, 70400, 19, []⟩])
 (.ret))⟩
def F243 : F := ⟨2, 17, [.t 4],
 .seq (.reg [⟨(some 2), .box (.t 0), none, 0, 0, []⟩,
   ⟨(some 3), .box (.t 1), none, 256, 1, []⟩,
   ⟨(some 4), .mv (.k (.int .i64 0)), none, 512, 2, []⟩])
 (.seq (.reg [⟨(some 5), .faddr 0 (.t 2), none, 65536, 0, []⟩,
   ⟨(some 6), .load 1 false (.t 5), none, 65792, 1, []⟩,
   ⟨(some 7), .faddr 0 (.t 3), none, 66048, 2, []⟩,
   ⟨(some 8), .load 1 false (.t 7), none, 66304, 3, []⟩,
   ⟨(some 9), .call 185 [(.t 6), (.t 8)] true, none, 66560, 4, []⟩,
   ⟨(some 10), .faddr 1 (.t 2), none, 66816, 5, []⟩,
   ⟨(some 11), .load 1 false (.t 10), none, 67072, 6, []⟩,
   ⟨(some 12), .faddr 1 (.t 3), none, 67328, 7, []⟩,
   ⟨(some 13), .load 1 false (.t 12), none, 67584, 8, []⟩,
   ⟨(some 14), .call 185 [(.t 11), (.t 13)] true, none, 67840, 9, []⟩,
   ⟨(some 15), .bslice true 1 [(.int .i64 0)] 2 [(0, (.t 9)), (1, (.t 14))], none, 68096, 10, []⟩,
   ⟨(some 16), .call 188 [(.t 15)] true, none, 68352, 11, []⟩,
   ⟨(some 4), .mv (.t 16), none, 68608, 12, []⟩])
 (.ret))⟩
def fns : Nat → Option F
  | 11 => some F11
  | 12 => some F12
  | 14 => some F14
  | 16 => some F16
  | 20 => some F20
  | 22 => some F22
  | 24 => some F24
  | 29 => some F29
  | 38 => some F38
  | 48 => some F48
  | 49 => some F49
  | 50 => some F50
  | 51 => some F51
  | 52 => some F52
  | 53 => some F53
  | 54 => some F54
  | 55 => some F55
  | 56 => some F56
  | 57 => some F57
  | 58 => some F58
  | 59 => some F59
  | 61 => some F61
  | 62 => some F62
  | 63 => some F63
  | 64 => some F64
  | 65 => some F65
  | 66 => some F66
  | 68 => some F68
  | 69 => some F69
  | 70 => some F70
  | 71 => some F71
  | 72 => some F72
  | 73 => some F73
  | 74 => some F74
  | 75 => some F75
  | 76 => some F76
  | 77 => some F77
  | 78 => some F78
  | 79 => some F79
  | 80 => some F80
  | 81 => some F81
  | 83 => some F83
  | 86 => some F86
  | 88 => some F88
  | 96 => some F96
  | 97 => some F97
  | 98 => some F98
  | 99 => some F99
  | 100 => some F100
  | 101 => some F101
  | 102 => some F102
  | 103 => some F103
  | 110 => some F110
  | 111 => some F111
  | 127 => some F127
  | 128 => some F128
  | 129 => some F129
  | 130 => some F130
  | 131 => some F131
  | 132 => some F132
  | 133 => some F133
  | 134 => some F134
  | 135 => some F135
  | 136 => some F136
  | 137 => some F137
  | 138 => some F138
  | 139 => some F139
  | 140 => some F140
  | 141 => some F141
  | 142 => some F142
  | 143 => some F143
  | 144 => some F144
  | 146 => some F146
  | 147 => some F147
  | 151 => some F151
  | 152 => some F152
  | 153 => some F153
  | 154 => some F154
  | 155 => some F155
  | 157 => some F157
  | 158 => some F158
  | 159 => some F159
  | 160 => some F160
  | 161 => some F161
  | 171 => some F171
  | 172 => some F172
  | 173 => some F173
  | 174 => some F174
  | 175 => some F175
  | 176 => some F176
  | 177 => some F177
  | 178 => some F178
  | 182 => some F182
  | 185 => some F185
  | 187 => some F187
  | 188 => some F188
  | 189 => some F189
  | 204 => some F204
  | 205 => some F205
  | 206 => some F206
  | 207 => some F207
  | 208 => some F208
  | 214 => some F214
  | 217 => some F217
  | 226 => some F226
  | 227 => some F227
  | 232 => some F232
  | 242 => some F242
  | 243 => some F243
  | _ => none
def natsR : Nat → Option (List AV → List Heap → Option Res) := fun _ => none
def nats : Nat → Option (List AV → Option (AV × List Blk))
  | 145 => some GA.natLogOk
  | 225 => some GA.natCmp
  | _ => none
def code : Prog := ⟨fns, md, nats, natsR⟩
theorem nat145 (k : Nat) (args : List AV) (E : List Heap) (v : AV) (bs : List Blk) (h : GA.natLogOk args = some (v, bs)) : call code (k + 1) 145 args E = some ⟨v, bs, E⟩ := call_nat rfl h
theorem nat225 (k : Nat) (args : List AV) (E : List Heap) (v : AV) (bs : List Blk) (h : GA.natCmp args = some (v, bs)) : call code (k + 1) 225 args E = some ⟨v, bs, E⟩ := call_nat rfl h
theorem fn11 : code.fn 11 = some F11 := rfl
theorem fn12 : code.fn 12 = some F12 := rfl
theorem fn14 : code.fn 14 = some F14 := rfl
theorem fn16 : code.fn 16 = some F16 := rfl
theorem fn20 : code.fn 20 = some F20 := rfl
theorem fn22 : code.fn 22 = some F22 := rfl
theorem fn24 : code.fn 24 = some F24 := rfl
theorem fn29 : code.fn 29 = some F29 := rfl
theorem fn38 : code.fn 38 = some F38 := rfl
theorem fn48 : code.fn 48 = some F48 := rfl
theorem fn49 : code.fn 49 = some F49 := rfl
theorem fn50 : code.fn 50 = some F50 := rfl
theorem fn51 : code.fn 51 = some F51 := rfl
theorem fn52 : code.fn 52 = some F52 := rfl
theorem fn53 : code.fn 53 = some F53 := rfl
theorem fn54 : code.fn 54 = some F54 := rfl
theorem fn55 : code.fn 55 = some F55 := rfl
theorem fn56 : code.fn 56 = some F56 := rfl
theorem fn57 : code.fn 57 = some F57 := rfl
theorem fn58 : code.fn 58 = some F58 := rfl
theorem fn59 : code.fn 59 = some F59 := rfl
theorem fn61 : code.fn 61 = some F61 := rfl
theorem fn62 : code.fn 62 = some F62 := rfl
theorem fn63 : code.fn 63 = some F63 := rfl
theorem fn64 : code.fn 64 = some F64 := rfl
theorem fn65 : code.fn 65 = some F65 := rfl
theorem fn66 : code.fn 66 = some F66 := rfl
theorem fn68 : code.fn 68 = some F68 := rfl
theorem fn69 : code.fn 69 = some F69 := rfl
theorem fn70 : code.fn 70 = some F70 := rfl
theorem fn71 : code.fn 71 = some F71 := rfl
theorem fn72 : code.fn 72 = some F72 := rfl
theorem fn73 : code.fn 73 = some F73 := rfl
theorem fn74 : code.fn 74 = some F74 := rfl
theorem fn75 : code.fn 75 = some F75 := rfl
theorem fn76 : code.fn 76 = some F76 := rfl
theorem fn77 : code.fn 77 = some F77 := rfl
theorem fn78 : code.fn 78 = some F78 := rfl
theorem fn79 : code.fn 79 = some F79 := rfl
theorem fn80 : code.fn 80 = some F80 := rfl
theorem fn81 : code.fn 81 = some F81 := rfl
theorem fn83 : code.fn 83 = some F83 := rfl
theorem fn86 : code.fn 86 = some F86 := rfl
theorem fn88 : code.fn 88 = some F88 := rfl
theorem fn96 : code.fn 96 = some F96 := rfl
theorem fn97 : code.fn 97 = some F97 := rfl
theorem fn98 : code.fn 98 = some F98 := rfl
theorem fn99 : code.fn 99 = some F99 := rfl
theorem fn100 : code.fn 100 = some F100 := rfl
theorem fn101 : code.fn 101 = some F101 := rfl
theorem fn102 : code.fn 102 = some F102 := rfl
theorem fn103 : code.fn 103 = some F103 := rfl
theorem fn110 : code.fn 110 = some F110 := rfl
theorem fn111 : code.fn 111 = some F111 := rfl
theorem fn127 : code.fn 127 = some F127 := rfl
theorem fn128 : code.fn 128 = some F128 := rfl
theorem fn129 : code.fn 129 = some F129 := rfl
theorem fn130 : code.fn 130 = some F130 := rfl
theorem fn131 : code.fn 131 = some F131 := rfl
theorem fn132 : code.fn 132 = some F132 := rfl
theorem fn133 : code.fn 133 = some F133 := rfl
theorem fn134 : code.fn 134 = some F134 := rfl
theorem fn135 : code.fn 135 = some F135 := rfl
theorem fn136 : code.fn 136 = some F136 := rfl
theorem fn137 : code.fn 137 = some F137 := rfl
theorem fn138 : code.fn 138 = some F138 := rfl
theorem fn139 : code.fn 139 = some F139 := rfl
theorem fn140 : code.fn 140 = some F140 := rfl
theorem fn141 : code.fn 141 = some F141 := rfl
theorem fn142 : code.fn 142 = some F142 := rfl
theorem fn143 : code.fn 143 = some F143 := rfl
theorem fn144 : code.fn 144 = some F144 := rfl
theorem fn146 : code.fn 146 = some F146 := rfl
theorem fn147 : code.fn 147 = some F147 := rfl
theorem fn151 : code.fn 151 = some F151 := rfl
theorem fn152 : code.fn 152 = some F152 := rfl
theorem fn153 : code.fn 153 = some F153 := rfl
theorem fn154 : code.fn 154 = some F154 := rfl
theorem fn155 : code.fn 155 = some F155 := rfl
theorem fn157 : code.fn 157 = some F157 := rfl
theorem fn158 : code.fn 158 = some F158 := rfl
theorem fn159 : code.fn 159 = some F159 := rfl
theorem fn160 : code.fn 160 = some F160 := rfl
theorem fn161 : code.fn 161 = some F161 := rfl
theorem fn171 : code.fn 171 = some F171 := rfl
theorem fn172 : code.fn 172 = some F172 := rfl
theorem fn173 : code.fn 173 = some F173 := rfl
theorem fn174 : code.fn 174 = some F174 := rfl
theorem fn175 : code.fn 175 = some F175 := rfl
theorem fn176 : code.fn 176 = some F176 := rfl
theorem fn177 : code.fn 177 = some F177 := rfl
theorem fn178 : code.fn 178 = some F178 := rfl
theorem fn182 : code.fn 182 = some F182 := rfl
theorem fn185 : code.fn 185 = some F185 := rfl
theorem fn187 : code.fn 187 = some F187 := rfl
theorem fn188 : code.fn 188 = some F188 := rfl
theorem fn189 : code.fn 189 = some F189 := rfl
theorem fn204 : code.fn 204 = some F204 := rfl
theorem fn205 : code.fn 205 = some F205 := rfl
theorem fn206 : code.fn 206 = some F206 := rfl
theorem fn207 : code.fn 207 = some F207 := rfl
theorem fn208 : code.fn 208 = some F208 := rfl
theorem fn214 : code.fn 214 = some F214 := rfl
theorem fn217 : code.fn 217 = some F217 := rfl
theorem fn226 : code.fn 226 = some F226 := rfl
theorem fn227 : code.fn 227 = some F227 := rfl
theorem fn232 : code.fn 232 = some F232 := rfl
theorem fn242 : code.fn 242 = some F242 := rfl
theorem fn243 : code.fn 243 = some F243 := rfl
section
variable {O : Oracle} {st : St} {Q : Ex → St → Prop} {fs : List Fr} {d : Option Nat} {b i : Nat} {ap : List X} {r : List IOp} (xs : List X) (fl : Bool)
theorem rcall145 : RunO O code.md (⟨d, .call 145 xs fl, none, b, i, ap⟩ :: r) fs st Q = (quietOk st (.call 145 xs fl) ap = true ∧ RunQ O code.md (callVal O st b 145 (evalXs st xs) fl) d r fs st Q) := R_call 145 xs fl rfl
theorem rcall225 : RunO O code.md (⟨d, .call 225 xs fl, none, b, i, ap⟩ :: r) fs st Q = (quietOk st (.call 225 xs fl) ap = true ∧ RunQ O code.md (callVal O st b 225 (evalXs st xs) fl) d r fs st Q) := R_call 225 xs fl rfl
theorem rcall11 : RunO O code.md (⟨d, .call 11 xs fl, none, b, i, ap⟩ :: r) fs st Q = (quietOk st (.call 11 xs fl) ap = true ∧ RunQ O code.md (callVal O st b 11 (evalXs st xs) fl) d r fs st Q) := R_call 11 xs fl rfl
theorem rcall12 : RunO O code.md (⟨d, .call 12 xs fl, none, b, i, ap⟩ :: r) fs st Q = (quietOk st (.call 12 xs fl) ap = true ∧ RunQ O code.md (callVal O st b 12 (evalXs st xs) fl) d r fs st Q) := R_call 12 xs fl rfl
theorem rcall14 : RunO O code.md (⟨d, .call 14 xs fl, none, b, i, ap⟩ :: r) fs st Q = (quietOk st (.call 14 xs fl) ap = true ∧ RunQ O code.md (callVal O st b 14 (evalXs st xs) fl) d r fs st Q) := R_call 14 xs fl rfl
theorem rcall16 : RunO O code.md (⟨d, .call 16 xs fl, none, b, i, ap⟩ :: r) fs st Q = (quietOk st (.call 16 xs fl) ap = true ∧ RunQ O code.md (callVal O st b 16 (evalXs st xs) fl) d r fs st Q) := R_call 16 xs fl rfl
theorem rcall20 : RunO O code.md (⟨d, .call 20 xs fl, none, b, i, ap⟩ :: r) fs st Q = (quietOk st (.call 20 xs fl) ap = true ∧ RunQ O code.md (callVal O st b 20 (evalXs st xs) fl) d r fs st Q) := R_call 20 xs fl rfl
theorem rcall22 : RunO O code.md (⟨d, .call 22 xs fl, none, b, i, ap⟩ :: r) fs st Q = (quietOk st (.call 22 xs fl) ap = true ∧ RunQ O code.md (callVal O st b 22 (evalXs st xs) fl) d r fs st Q) := R_call 22 xs fl rfl
theorem rcall24 : RunO O code.md (⟨d, .call 24 xs fl, none, b, i, ap⟩ :: r) fs st Q = (quietOk st (.call 24 xs fl) ap = true ∧ RunQ O code.md (callVal O st b 24 (evalXs st xs) fl) d r fs st Q) := R_call 24 xs fl rfl
theorem rcall29 : RunO O code.md (⟨d, .call 29 xs fl, none, b, i, ap⟩ :: r) fs st Q = (quietOk st (.call 29 xs fl) ap = true ∧ RunQ O code.md (callVal O st b 29 (evalXs st xs) fl) d r fs st Q) := R_call 29 xs fl rfl
theorem rcall38 : RunO O code.md (⟨d, .call 38 xs fl, none, b, i, ap⟩ :: r) fs st Q = (quietOk st (.call 38 xs fl) ap = true ∧ RunQ O code.md (callVal O st b 38 (evalXs st xs) fl) d r fs st Q) := R_call 38 xs fl rfl
theorem rcall48 : RunO O code.md (⟨d, .call 48 xs fl, none, b, i, ap⟩ :: r) fs st Q = (quietOk st (.call 48 xs fl) ap = true ∧ RunQ O code.md (callVal O st b 48 (evalXs st xs) fl) d r fs st Q) := R_call 48 xs fl rfl
theorem rcall49 : RunO O code.md (⟨d, .call 49 xs fl, none, b, i, ap⟩ :: r) fs st Q = (quietOk st (.call 49 xs fl) ap = true ∧ RunQ O code.md (callVal O st b 49 (evalXs st xs) fl) d r fs st Q) := R_call 49 xs fl rfl
theorem rcall50 : RunO O code.md (⟨d, .call 50 xs fl, none, b, i, ap⟩ :: r) fs st Q = (quietOk st (.call 50 xs fl) ap = true ∧ RunQ O code.md (callVal O st b 50 (evalXs st xs) fl) d r fs st Q) := R_call 50 xs fl rfl
theorem rcall51 : RunO O code.md (⟨d, .call 51 xs fl, none, b, i, ap⟩ :: r) fs st Q = (quietOk st (.call 51 xs fl) ap = true ∧ RunQ O code.md (callVal O st b 51 (evalXs st xs) fl) d r fs st Q) := R_call 51 xs fl rfl
theorem rcall52 : RunO O code.md (⟨d, .call 52 xs fl, none, b, i, ap⟩ :: r) fs st Q = (quietOk st (.call 52 xs fl) ap = true ∧ RunQ O code.md (callVal O st b 52 (evalXs st xs) fl) d r fs st Q) := R_call 52 xs fl rfl
theorem rcall53 : RunO O code.md (⟨d, .call 53 xs fl, none, b, i, ap⟩ :: r) fs st Q = ((apartOk st (.call 53 xs fl) ap && keyedOk st ap) = true ∧ RunK O code.md (callRef O st b 53 (evalXs st xs) fl) st (.call 53 xs fl) ap d r fs Q) := R_callr 53 xs fl rfl
theorem rcall54 : RunO O code.md (⟨d, .call 54 xs fl, none, b, i, ap⟩ :: r) fs st Q = (quietOk st (.call 54 xs fl) ap = true ∧ RunQ O code.md (callVal O st b 54 (evalXs st xs) fl) d r fs st Q) := R_call 54 xs fl rfl
theorem rcall55 : RunO O code.md (⟨d, .call 55 xs fl, none, b, i, ap⟩ :: r) fs st Q = (quietOk st (.call 55 xs fl) ap = true ∧ RunQ O code.md (callVal O st b 55 (evalXs st xs) fl) d r fs st Q) := R_call 55 xs fl rfl
theorem rcall56 : RunO O code.md (⟨d, .call 56 xs fl, none, b, i, ap⟩ :: r) fs st Q = (quietOk st (.call 56 xs fl) ap = true ∧ RunQ O code.md (callVal O st b 56 (evalXs st xs) fl) d r fs st Q) := R_call 56 xs fl rfl
theorem rcall57 : RunO O code.md (⟨d, .call 57 xs fl, none, b, i, ap⟩ :: r) fs st Q = (quietOk st (.call 57 xs fl) ap = true ∧ RunQ O code.md (callVal O st b 57 (evalXs st xs) fl) d r fs st Q) := R_call 57 xs fl rfl
theorem rcall58 : RunO O code.md (⟨d, .call 58 xs fl, none, b, i, ap⟩ :: r) fs st Q = (quietOk st (.call 58 xs fl) ap = true ∧ RunQ O code.md (callVal O st b 58 (evalXs st xs) fl) d r fs st Q) := R_call 58 xs fl rfl
theorem rcall59 : RunO O code.md (⟨d, .call 59 xs fl, none, b, i, ap⟩ :: r) fs st Q = (quietOk st (.call 59 xs fl) ap = true ∧ RunQ O code.md (callVal O st b 59 (evalXs st xs) fl) d r fs st Q) := R_call 59 xs fl rfl
theorem rcall61 : RunO O code.md (⟨d, .call 61 xs fl, none, b, i, ap⟩ :: r) fs st Q = (quietOk st (.call 61 xs fl) ap = true ∧ RunQ O code.md (callVal O st b 61 (evalXs st xs) fl) d r fs st Q) := R_call 61 xs fl rfl
theorem rcall62 : RunO O code.md (⟨d, .call 62 xs fl, none, b, i, ap⟩ :: r) fs st Q = (quietOk st (.call 62 xs fl) ap = true ∧ RunQ O code.md (callVal O st b 62 (evalXs st xs) fl) d r fs st Q) := R_call 62 xs fl rfl
theorem rcall63 : RunO O code.md (⟨d, .call 63 xs fl, none, b, i, ap⟩ :: r) fs st Q = (quietOk st (.call 63 xs fl) ap = true ∧ RunQ O code.md (callVal O st b 63 (evalXs st xs) fl) d r fs st Q) := R_call 63 xs fl rfl
theorem rcall64 : RunO O code.md (⟨d, .call 64 xs fl, none, b, i, ap⟩ :: r) fs st Q = (quietOk st (.call 64 xs fl) ap = true ∧ RunQ O code.md (callVal O st b 64 (evalXs st xs) fl) d r fs st Q) := R_call 64 xs fl rfl
theorem rcall65 : RunO O code.md (⟨d, .call 65 xs fl, none, b, i, ap⟩ :: r) fs st Q = (quietOk st (.call 65 xs fl) ap = true ∧ RunQ O code.md (callVal O st b 65 (evalXs st xs) fl) d r fs st Q) := R_call 65 xs fl rfl
theorem rcall66 : RunO O code.md (⟨d, .call 66 xs fl, none, b, i, ap⟩ :: r) fs st Q = (quietOk st (.call 66 xs fl) ap = true ∧ RunQ O code.md (callVal O st b 66 (evalXs st xs) fl) d r fs st Q) := R_call 66 xs fl rfl
theorem rcall68 : RunO O code.md (⟨d, .call 68 xs fl, none, b, i, ap⟩ :: r) fs st Q = (quietOk st (.call 68 xs fl) ap = true ∧ RunQ O code.md (callVal O st b 68 (evalXs st xs) fl) d r fs st Q) := R_call 68 xs fl rfl
theorem rcall69 : RunO O code.md (⟨d, .call 69 xs fl, none, b, i, ap⟩ :: r) fs st Q = (quietOk st (.call 69 xs fl) ap = true ∧ RunQ O code.md (callVal O st b 69 (evalXs st xs) fl) d r fs st Q) := R_call 69 xs fl rfl
theorem rcall70 : RunO O code.md (⟨d, .call 70 xs fl, none, b, i, ap⟩ :: r) fs st Q = (quietOk st (.call 70 xs fl) ap = true ∧ RunQ O code.md (callVal O st b 70 (evalXs st xs) fl) d r fs st Q) := R_call 70 xs fl rfl
theorem rcall71 : RunO O code.md (⟨d, .call 71 xs fl, none, b, i, ap⟩ :: r) fs st Q = (quietOk st (.call 71 xs fl) ap = true ∧ RunQ O code.md (callVal O st b 71 (evalXs st xs) fl) d r fs st Q) := R_call 71 xs fl rfl
theorem rcall72 : RunO O code.md (⟨d, .call 72 xs fl, none, b, i, ap⟩ :: r) fs st Q = (quietOk st (.call 72 xs fl) ap = true ∧ RunQ O code.md (callVal O st b 72 (evalXs st xs) fl) d r fs st Q) := R_call 72 xs fl rfl
theorem rcall73 : RunO O code.md (⟨d, .call 73 xs fl, none, b, i, ap⟩ :: r) fs st Q = (quietOk st (.call 73 xs fl) ap = true ∧ RunQ O code.md (callVal O st b 73 (evalXs st xs) fl) d r fs st Q) := R_call 73 xs fl rfl
theorem rcall74 : RunO O code.md (⟨d, .call 74 xs fl, none, b, i, ap⟩ :: r) fs st Q = ((apartOk st (.call 74 xs fl) ap && keyedOk st ap) = true ∧ RunK O code.md (callRef O st b 74 (evalXs st xs) fl) st (.call 74 xs fl) ap d r fs Q) := R_callr 74 xs fl rfl
theorem rcall75 : RunO O code.md (⟨d, .call 75 xs fl, none, b, i, ap⟩ :: r) fs st Q = ((apartOk st (.call 75 xs fl) ap && keyedOk st ap) = true ∧ RunK O code.md (callRef O st b 75 (evalXs st xs) fl) st (.call 75 xs fl) ap d r fs Q) := R_callr 75 xs fl rfl
theorem rcall76 : RunO O code.md (⟨d, .call 76 xs fl, none, b, i, ap⟩ :: r) fs st Q = ((apartOk st (.call 76 xs fl) ap && keyedOk st ap) = true ∧ RunK O code.md (callRef O st b 76 (evalXs st xs) fl) st (.call 76 xs fl) ap d r fs Q) := R_callr 76 xs fl rfl
theorem rcall77 : RunO O code.md (⟨d, .call 77 xs fl, none, b, i, ap⟩ :: r) fs st Q = ((apartOk st (.call 77 xs fl) ap && keyedOk st ap) = true ∧ RunK O code.md (callRef O st b 77 (evalXs st xs) fl) st (.call 77 xs fl) ap d r fs Q) := R_callr 77 xs fl rfl
theorem rcall78 : RunO O code.md (⟨d, .call 78 xs fl, none, b, i, ap⟩ :: r) fs st Q = (quietOk st (.call 78 xs fl) ap = true ∧ RunQ O code.md (callVal O st b 78 (evalXs st xs) fl) d r fs st Q) := R_call 78 xs fl rfl
theorem rcall79 : RunO O code.md (⟨d, .call 79 xs fl, none, b, i, ap⟩ :: r) fs st Q = (quietOk st (.call 79 xs fl) ap = true ∧ RunQ O code.md (callVal O st b 79 (evalXs st xs) fl) d r fs st Q) := R_call 79 xs fl rfl
theorem rcall80 : RunO O code.md (⟨d, .call 80 xs fl, none, b, i, ap⟩ :: r) fs st Q = (quietOk st (.call 80 xs fl) ap = true ∧ RunQ O code.md (callVal O st b 80 (evalXs st xs) fl) d r fs st Q) := R_call 80 xs fl rfl
theorem rcall81 : RunO O code.md (⟨d, .call 81 xs fl, none, b, i, ap⟩ :: r) fs st Q = (quietOk st (.call 81 xs fl) ap = true ∧ RunQ O code.md (callVal O st b 81 (evalXs st xs) fl) d r fs st Q) := R_call 81 xs fl rfl
theorem rcall83 : RunO O code.md (⟨d, .call 83 xs fl, none, b, i, ap⟩ :: r) fs st Q = (quietOk st (.call 83 xs fl) ap = true ∧ RunQ O code.md (callVal O st b 83 (evalXs st xs) fl) d r fs st Q) := R_call 83 xs fl rfl
theorem rcall86 : RunO O code.md (⟨d, .call 86 xs fl, none, b, i, ap⟩ :: r) fs st Q = (quietOk st (.call 86 xs fl) ap = true ∧ RunQ O code.md (callVal O st b 86 (evalXs st xs) fl) d r fs st Q) := R_call 86 xs fl rfl
theorem rcall88 : RunO O code.md (⟨d, .call 88 xs fl, none, b, i, ap⟩ :: r) fs st Q = (quietOk st (.call 88 xs fl) ap = true ∧ RunQ O code.md (callVal O st b 88 (evalXs st xs) fl) d r fs st Q) := R_call 88 xs fl rfl
theorem rcall96 : RunO O code.md (⟨d, .call 96 xs fl, none, b, i, ap⟩ :: r) fs st Q = (quietOk st (.call 96 xs fl) ap = true ∧ RunQ O code.md (callVal O st b 96 (evalXs st xs) fl) d r fs st Q) := R_call 96 xs fl rfl
theorem rcall97 : RunO O code.md (⟨d, .call 97 xs fl, none, b, i, ap⟩ :: r) fs st Q = (quietOk st (.call 97 xs fl) ap = true ∧ RunQ O code.md (callVal O st b 97 (evalXs st xs) fl) d r fs st Q) := R_call 97 xs fl rfl
theorem rcall98 : RunO O code.md (⟨d, .call 98 xs fl, none, b, i, ap⟩ :: r) fs st Q = (quietOk st (.call 98 xs fl) ap = true ∧ RunQ O code.md (callVal O st b 98 (evalXs st xs) fl) d r fs st Q) := R_call 98 xs fl rfl
theorem rcall99 : RunO O code.md (⟨d, .call 99 xs fl, none, b, i, ap⟩ :: r) fs st Q = (quietOk st (.call 99 xs fl) ap = true ∧ RunQ O code.md (callVal O st b 99 (evalXs st xs) fl) d r fs st Q) := R_call 99 xs fl rfl
theorem rcall100 : RunO O code.md (⟨d, .call 100 xs fl, none, b, i, ap⟩ :: r) fs st Q = (quietOk st (.call 100 xs fl) ap = true ∧ RunQ O code.md (callVal O st b 100 (evalXs st xs) fl) d r fs st Q) := R_call 100 xs fl rfl
theorem rcall101 : RunO O code.md (⟨d, .call 101 xs fl, none, b, i, ap⟩ :: r) fs st Q = (quietOk st (.call 101 xs fl) ap = true ∧ RunQ O code.md (callVal O st b 101 (evalXs st xs) fl) d r fs st Q) := R_call 101 xs fl rfl
theorem rcall102 : RunO O code.md (⟨d, .call 102 xs fl, none, b, i, ap⟩ :: r) fs st Q = (quietOk st (.call 102 xs fl) ap = true ∧ RunQ O code.md (callVal O st b 102 (evalXs st xs) fl) d r fs st Q) := R_call 102 xs fl rfl
theorem rcall103 : RunO O code.md (⟨d, .call 103 xs fl, none, b, i, ap⟩ :: r) fs st Q = (quietOk st (.call 103 xs fl) ap = true ∧ RunQ O code.md (callVal O st b 103 (evalXs st xs) fl) d r fs st Q) := R_call 103 xs fl rfl
theorem rcall110 : RunO O code.md (⟨d, .call 110 xs fl, none, b, i, ap⟩ :: r) fs st Q = (quietOk st (.call 110 xs fl) ap = true ∧ RunQ O code.md (callVal O st b 110 (evalXs st xs) fl) d r fs st Q) := R_call 110 xs fl rfl
theorem rcall111 : RunO O code.md (⟨d, .call 111 xs fl, none, b, i, ap⟩ :: r) fs st Q = (quietOk st (.call 111 xs fl) ap = true ∧ RunQ O code.md (callVal O st b 111 (evalXs st xs) fl) d r fs st Q) := R_call 111 xs fl rfl
theorem rcall127 : RunO O code.md (⟨d, .call 127 xs fl, none, b, i, ap⟩ :: r) fs st Q = (quietOk st (.call 127 xs fl) ap = true ∧ RunQ O code.md (callVal O st b 127 (evalXs st xs) fl) d r fs st Q) := R_call 127 xs fl rfl
theorem rcall128 : RunO O code.md (⟨d, .call 128 xs fl, none, b, i, ap⟩ :: r) fs st Q = (quietOk st (.call 128 xs fl) ap = true ∧ RunQ O code.md (callVal O st b 128 (evalXs st xs) fl) d r fs st Q) := R_call 128 xs fl rfl
theorem rcall129 : RunO O code.md (⟨d, .call 129 xs fl, none, b, i, ap⟩ :: r) fs st Q = (quietOk st (.call 129 xs fl) ap = true ∧ RunQ O code.md (callVal O st b 129 (evalXs st xs) fl) d r fs st Q) := R_call 129 xs fl rfl
theorem rcall130 : RunO O code.md (⟨d, .call 130 xs fl, none, b, i, ap⟩ :: r) fs st Q = (quietOk st (.call 130 xs fl) ap = true ∧ RunQ O code.md (callVal O st b 130 (evalXs st xs) fl) d r fs st Q) := R_call 130 xs fl rfl
theorem rcall131 : RunO O code.md (⟨d, .call 131 xs fl, none, b, i, ap⟩ :: r) fs st Q = (quietOk st (.call 131 xs fl) ap = true ∧ RunQ O code.md (callVal O st b 131 (evalXs st xs) fl) d r fs st Q) := R_call 131 xs fl rfl
theorem rcall132 : RunO O code.md (⟨d, .call 132 xs fl, none, b, i, ap⟩ :: r) fs st Q = (quietOk st (.call 132 xs fl) ap = true ∧ RunQ O code.md (callVal O st b 132 (evalXs st xs) fl) d r fs st Q) := R_call 132 xs fl rfl
theorem rcall133 : RunO O code.md (⟨d, .call 133 xs fl, none, b, i, ap⟩ :: r) fs st Q = (quietOk st (.call 133 xs fl) ap = true ∧ RunQ O code.md (callVal O st b 133 (evalXs st xs) fl) d r fs st Q) := R_call 133 xs fl rfl
theorem rcall134 : RunO O code.md (⟨d, .call 134 xs fl, none, b, i, ap⟩ :: r) fs st Q = ((apartOk st (.call 134 xs fl) ap && keyedOk st ap) = true ∧ RunK O code.md (callRef O st b 134 (evalXs st xs) fl) st (.call 134 xs fl) ap d r fs Q) := R_callr 134 xs fl rfl
theorem rcall135 : RunO O code.md (⟨d, .call 135 xs fl, none, b, i, ap⟩ :: r) fs st Q = (quietOk st (.call 135 xs fl) ap = true ∧ RunQ O code.md (callVal O st b 135 (evalXs st xs) fl) d r fs st Q) := R_call 135 xs fl rfl
theorem rcall136 : RunO O code.md (⟨d, .call 136 xs fl, none, b, i, ap⟩ :: r) fs st Q = (quietOk st (.call 136 xs fl) ap = true ∧ RunQ O code.md (callVal O st b 136 (evalXs st xs) fl) d r fs st Q) := R_call 136 xs fl rfl
theorem rcall137 : RunO O code.md (⟨d, .call 137 xs fl, none, b, i, ap⟩ :: r) fs st Q = (quietOk st (.call 137 xs fl) ap = true ∧ RunQ O code.md (callVal O st b 137 (evalXs st xs) fl) d r fs st Q) := R_call 137 xs fl rfl
theorem rcall138 : RunO O code.md (⟨d, .call 138 xs fl, none, b, i, ap⟩ :: r) fs st Q = (quietOk st (.call 138 xs fl) ap = true ∧ RunQ O code.md (callVal O st b 138 (evalXs st xs) fl) d r fs st Q) := R_call 138 xs fl rfl
theorem rcall139 : RunO O code.md (⟨d, .call 139 xs fl, none, b, i, ap⟩ :: r) fs st Q = (quietOk st (.call 139 xs fl) ap = true ∧ RunQ O code.md (callVal O st b 139 (evalXs st xs) fl) d r fs st Q) := R_call 139 xs fl rfl
theorem rcall140 : RunO O code.md (⟨d, .call 140 xs fl, none, b, i, ap⟩ :: r) fs st Q = (quietOk st (.call 140 xs fl) ap = true ∧ RunQ O code.md (callVal O st b 140 (evalXs st xs) fl) d r fs st Q) := R_call 140 xs fl rfl
theorem rcall141 : RunO O code.md (⟨d, .call 141 xs fl, none, b, i, ap⟩ :: r) fs st Q = (quietOk st (.call 141 xs fl) ap = true ∧ RunQ O code.md (callVal O st b 141 (evalXs st xs) fl) d r fs st Q) := R_call 141 xs fl rfl
theorem rcall142 : RunO O code.md (⟨d, .call 142 xs fl, none, b, i, ap⟩ :: r) fs st Q = (quietOk st (.call 142 xs fl) ap = true ∧ RunQ O code.md (callVal O st b 142 (evalXs st xs) fl) d r fs st Q) := R_call 142 xs fl rfl
theorem rcall143 : RunO O code.md (⟨d, .call 143 xs fl, none, b, i, ap⟩ :: r) fs st Q = (quietOk st (.call 143 xs fl) ap = true ∧ RunQ O code.md (callVal O st b 143 (evalXs st xs) fl) d r fs st Q) := R_call 143 xs fl rfl
theorem rcall144 : RunO O code.md (⟨d, .call 144 xs fl, none, b, i, ap⟩ :: r) fs st Q = (quietOk st (.call 144 xs fl) ap = true ∧ RunQ O code.md (callVal O st b 144 (evalXs st xs) fl) d r fs st Q) := R_call 144 xs fl rfl
theorem rcall146 : RunO O code.md (⟨d, .call 146 xs fl, none, b, i, ap⟩ :: r) fs st Q = (quietOk st (.call 146 xs fl) ap = true ∧ RunQ O code.md (callVal O st b 146 (evalXs st xs) fl) d r fs st Q) := R_call 146 xs fl rfl
theorem rcall147 : RunO O code.md (⟨d, .call 147 xs fl, none, b, i, ap⟩ :: r) fs st Q = (quietOk st (.call 147 xs fl) ap = true ∧ RunQ O code.md (callVal O st b 147 (evalXs st xs) fl) d r fs st Q) := R_call 147 xs fl rfl
theorem rcall151 : RunO O code.md (⟨d, .call 151 xs fl, none, b, i, ap⟩ :: r) fs st Q = (quietOk st (.call 151 xs fl) ap = true ∧ RunQ O code.md (callVal O st b 151 (evalXs st xs) fl) d r fs st Q) := R_call 151 xs fl rfl
theorem rcall152 : RunO O code.md (⟨d, .call 152 xs fl, none, b, i, ap⟩ :: r) fs st Q = (quietOk st (.call 152 xs fl) ap = true ∧ RunQ O code.md (callVal O st b 152 (evalXs st xs) fl) d r fs st Q) := R_call 152 xs fl rfl
theorem rcall153 : RunO O code.md (⟨d, .call 153 xs fl, none, b, i, ap⟩ :: r) fs st Q = (quietOk st (.call 153 xs fl) ap = true ∧ RunQ O code.md (callVal O st b 153 (evalXs st xs) fl) d r fs st Q) := R_call 153 xs fl rfl
theorem rcall154 : RunO O code.md (⟨d, .call 154 xs fl, none, b, i, ap⟩ :: r) fs st Q = (quietOk st (.call 154 xs fl) ap = true ∧ RunQ O code.md (callVal O st b 154 (evalXs st xs) fl) d r fs st Q) := R_call 154 xs fl rfl
theorem rcall155 : RunO O code.md (⟨d, .call 155 xs fl, none, b, i, ap⟩ :: r) fs st Q = (quietOk st (.call 155 xs fl) ap = true ∧ RunQ O code.md (callVal O st b 155 (evalXs st xs) fl) d r fs st Q) := R_call 155 xs fl rfl
theorem rcall157 : RunO O code.md (⟨d, .call 157 xs fl, none, b, i, ap⟩ :: r) fs st Q = (quietOk st (.call 157 xs fl) ap = true ∧ RunQ O code.md (callVal O st b 157 (evalXs st xs) fl) d r fs st Q) := R_call 157 xs fl rfl
theorem rcall158 : RunO O code.md (⟨d, .call 158 xs fl, none, b, i, ap⟩ :: r) fs st Q = (quietOk st (.call 158 xs fl) ap = true ∧ RunQ O code.md (callVal O st b 158 (evalXs st xs) fl) d r fs st Q) := R_call 158 xs fl rfl
theorem rcall159 : RunO O code.md (⟨d, .call 159 xs fl, none, b, i, ap⟩ :: r) fs st Q = (quietOk st (.call 159 xs fl) ap = true ∧ RunQ O code.md (callVal O st b 159 (evalXs st xs) fl) d r fs st Q) := R_call 159 xs fl rfl
theorem rcall160 : RunO O code.md (⟨d, .call 160 xs fl, none, b, i, ap⟩ :: r) fs st Q = (quietOk st (.call 160 xs fl) ap = true ∧ RunQ O code.md (callVal O st b 160 (evalXs st xs) fl) d r fs st Q) := R_call 160 xs fl rfl
theorem rcall161 : RunO O code.md (⟨d, .call 161 xs fl, none, b, i, ap⟩ :: r) fs st Q = (quietOk st (.call 161 xs fl) ap = true ∧ RunQ O code.md (callVal O st b 161 (evalXs st xs) fl) d r fs st Q) := R_call 161 xs fl rfl
theorem rcall171 : RunO O code.md (⟨d, .call 171 xs fl, none, b, i, ap⟩ :: r) fs st Q = (quietOk st (.call 171 xs fl) ap = true ∧ RunQ O code.md (callVal O st b 171 (evalXs st xs) fl) d r fs st Q) := R_call 171 xs fl rfl
theorem rcall172 : RunO O code.md (⟨d, .call 172 xs fl, none, b, i, ap⟩ :: r) fs st Q = (quietOk st (.call 172 xs fl) ap = true ∧ RunQ O code.md (callVal O st b 172 (evalXs st xs) fl) d r fs st Q) := R_call 172 xs fl rfl
theorem rcall173 : RunO O code.md (⟨d, .call 173 xs fl, none, b, i, ap⟩ :: r) fs st Q = (quietOk st (.call 173 xs fl) ap = true ∧ RunQ O code.md (callVal O st b 173 (evalXs st xs) fl) d r fs st Q) := R_call 173 xs fl rfl
theorem rcall174 : RunO O code.md (⟨d, .call 174 xs fl, none, b, i, ap⟩ :: r) fs st Q = (quietOk st (.call 174 xs fl) ap = true ∧ RunQ O code.md (callVal O st b 174 (evalXs st xs) fl) d r fs st Q) := R_call 174 xs fl rfl
theorem rcall175 : RunO O code.md (⟨d, .call 175 xs fl, none, b, i, ap⟩ :: r) fs st Q = (quietOk st (.call 175 xs fl) ap = true ∧ RunQ O code.md (callVal O st b 175 (evalXs st xs) fl) d r fs st Q) := R_call 175 xs fl rfl
theorem rcall176 : RunO O code.md (⟨d, .call 176 xs fl, none, b, i, ap⟩ :: r) fs st Q = (quietOk st (.call 176 xs fl) ap = true ∧ RunQ O code.md (callVal O st b 176 (evalXs st xs) fl) d r fs st Q) := R_call 176 xs fl rfl
theorem rcall177 : RunO O code.md (⟨d, .call 177 xs fl, none, b, i, ap⟩ :: r) fs st Q = (quietOk st (.call 177 xs fl) ap = true ∧ RunQ O code.md (callVal O st b 177 (evalXs st xs) fl) d r fs st Q) := R_call 177 xs fl rfl
theorem rcall178 : RunO O code.md (⟨d, .call 178 xs fl, none, b, i, ap⟩ :: r) fs st Q = (quietOk st (.call 178 xs fl) ap = true ∧ RunQ O code.md (callVal O st b 178 (evalXs st xs) fl) d r fs st Q) := R_call 178 xs fl rfl
theorem rcall182 : RunO O code.md (⟨d, .call 182 xs fl, none, b, i, ap⟩ :: r) fs st Q = (quietOk st (.call 182 xs fl) ap = true ∧ RunQ O code.md (callVal O st b 182 (evalXs st xs) fl) d r fs st Q) := R_call 182 xs fl rfl
theorem rcall185 : RunO O code.md (⟨d, .call 185 xs fl, none, b, i, ap⟩ :: r) fs st Q = (quietOk st (.call 185 xs fl) ap = true ∧ RunQ O code.md (callVal O st b 185 (evalXs st xs) fl) d r fs st Q) := R_call 185 xs fl rfl
theorem rcall187 : RunO O code.md (⟨d, .call 187 xs fl, none, b, i, ap⟩ :: r) fs st Q = (quietOk st (.call 187 xs fl) ap = true ∧ RunQ O code.md (callVal O st b 187 (evalXs st xs) fl) d r fs st Q) := R_call 187 xs fl rfl
theorem rcall188 : RunO O code.md (⟨d, .call 188 xs fl, none, b, i, ap⟩ :: r) fs st Q = (quietOk st (.call 188 xs fl) ap = true ∧ RunQ O code.md (callVal O st b 188 (evalXs st xs) fl) d r fs st Q) := R_call 188 xs fl rfl
theorem rcall189 : RunO O code.md (⟨d, .call 189 xs fl, none, b, i, ap⟩ :: r) fs st Q = (quietOk st (.call 189 xs fl) ap = true ∧ RunQ O code.md (callVal O st b 189 (evalXs st xs) fl) d r fs st Q) := R_call 189 xs fl rfl
theorem rcall204 : RunO O code.md (⟨d, .call 204 xs fl, none, b, i, ap⟩ :: r) fs st Q = (quietOk st (.call 204 xs fl) ap = true ∧ RunQ O code.md (callVal O st b 204 (evalXs st xs) fl) d r fs st Q) := R_call 204 xs fl rfl
theorem rcall205 : RunO O code.md (⟨d, .call 205 xs fl, none, b, i, ap⟩ :: r) fs st Q = (quietOk st (.call 205 xs fl) ap = true ∧ RunQ O code.md (callVal O st b 205 (evalXs st xs) fl) d r fs st Q) := R_call 205 xs fl rfl
theorem rcall206 : RunO O code.md (⟨d, .call 206 xs fl, none, b, i, ap⟩ :: r) fs st Q = (quietOk st (.call 206 xs fl) ap = true ∧ RunQ O code.md (callVal O st b 206 (evalXs st xs) fl) d r fs st Q) := R_call 206 xs fl rfl
theorem rcall207 : RunO O code.md (⟨d, .call 207 xs fl, none, b, i, ap⟩ :: r) fs st Q = (quietOk st (.call 207 xs fl) ap = true ∧ RunQ O code.md (callVal O st b 207 (evalXs st xs) fl) d r fs st Q) := R_call 207 xs fl rfl
theorem rcall208 : RunO O code.md (⟨d, .call 208 xs fl, none, b, i, ap⟩ :: r) fs st Q = (quietOk st (.call 208 xs fl) ap = true ∧ RunQ O code.md (callVal O st b 208 (evalXs st xs) fl) d r fs st Q) := R_call 208 xs fl rfl
theorem rcall214 : RunO O code.md (⟨d, .call 214 xs fl, none, b, i, ap⟩ :: r) fs st Q = (quietOk st (.call 214 xs fl) ap = true ∧ RunQ O code.md (callVal O st b 214 (evalXs st xs) fl) d r fs st Q) := R_call 214 xs fl rfl
theorem rcall217 : RunO O code.md (⟨d, .call 217 xs fl, none, b, i, ap⟩ :: r) fs st Q = (quietOk st (.call 217 xs fl) ap = true ∧ RunQ O code.md (callVal O st b 217 (evalXs st xs) fl) d r fs st Q) := R_call 217 xs fl rfl
theorem rcall226 : RunO O code.md (⟨d, .call 226 xs fl, none, b, i, ap⟩ :: r) fs st Q = (quietOk st (.call 226 xs fl) ap = true ∧ RunQ O code.md (callVal O st b 226 (evalXs st xs) fl) d r fs st Q) := R_call 226 xs fl rfl
theorem rcall227 : RunO O code.md (⟨d, .call 227 xs fl, none, b, i, ap⟩ :: r) fs st Q = (quietOk st (.call 227 xs fl) ap = true ∧ RunQ O code.md (callVal O st b 227 (evalXs st xs) fl) d r fs st Q) := R_call 227 xs fl rfl
theorem rcall232 : RunO O code.md (⟨d, .call 232 xs fl, none, b, i, ap⟩ :: r) fs st Q = (quietOk st (.call 232 xs fl) ap = true ∧ RunQ O code.md (callVal O st b 232 (evalXs st xs) fl) d r fs st Q) := R_call 232 xs fl rfl
theorem rcall242 : RunO O code.md (⟨d, .call 242 xs fl, none, b, i, ap⟩ :: r) fs st Q = (quietOk st (.call 242 xs fl) ap = true ∧ RunQ O code.md (callVal O st b 242 (evalXs st xs) fl) d r fs st Q) := R_call 242 xs fl rfl
theorem rcall243 : RunO O code.md (⟨d, .call 243 xs fl, none, b, i, ap⟩ :: r) fs st Q = (quietOk st (.call 243 xs fl) ap = true ∧ RunQ O code.md (callVal O st b 243 (evalXs st xs) fl) d r fs st Q) := R_call 243 xs fl rfl
end
end Go.Ae.GA.B
