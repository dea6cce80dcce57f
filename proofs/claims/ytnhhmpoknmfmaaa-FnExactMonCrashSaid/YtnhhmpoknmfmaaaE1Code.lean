/- The code of the functions, for the evaluator. -/
import Derived.Test.YtnhhmpoknmfmaaaAeL6
namespace Go.Ae.E1

def md : Nat → Mode
  | 22 => .ref
  | 58 => .ref
  | 59 => .ref
  | 96 => .ref
  | _ => .val
/-- loop.example/g00849/laws.FnExactMonCrash -/
def F6 : F := ⟨1, 69, [.t 2],
 .seq (.reg [⟨(some 1), .box (.t 0), none, 0, 0, []⟩,
   ⟨(some 2), .mv (.k (.bool false)), none, 256, 1, []⟩])
 (.seq (.reg [⟨(some 3), .mv (.k (.int .i64 1048576)), none, 65536, 0, []⟩])
 (.seq (.reg [⟨(some 11), .load 15 true (.t 1), none, 131072, 0, []⟩,
   ⟨(some 12), .mv (.t 3), none, 131328, 1, []⟩,
   ⟨(some 13), .call 17 [(.t 11), (.t 12)] true, none, 131584, 2, []⟩,
   ⟨(some 3), .mv (.t 13), none, 131840, 3, []⟩])
 (.seq (.seq (.reg [⟨(some 14), .mv (.t 3), none, 196608, 0, []⟩,
   ⟨(some 15), .bin .lss (.t 14) (.k (.int .i64 0)), none, 196864, 1, []⟩])
 (.cond (.t 15)
  (.seq (.reg [⟨(some 2), .mv (.k (.bool true)), none, 262144, 0, []⟩])
  (.ret))
  (.skip)))
 (.seq (.reg [⟨(some 16), .load 15 true (.t 1), none, 327680, 0, []⟩,
   ⟨(some 17), .call 19 [(.t 16)] false, none, 327936, 1, []⟩,
   ⟨(some 18), .call 18 [(.t 17)] false, none, 328192, 2, []⟩,
   ⟨(some 4), .alloc [(.int .i64 0), (.int .i64 0), (.nil true 9), (.int .i64 0), (.int .i64 0), (.int .i64 0), (.int .i64 0), (.int .i64 0), (.int .i64 0), (.int .i64 0), (.int .i64 0), (.int .i64 0), (.nil true 1), (.nil true 1), (.bool false)], none, 328448, 3, []⟩,
   ⟨none, .store 15 (.t 4) (.t 18), none, 328704, 4, []⟩])
 (.seq (.reg [⟨(some 19), .load 15 true (.t 1), none, 393216, 0, []⟩,
   ⟨(some 20), .call 19 [(.t 19)] false, none, 393472, 1, []⟩,
   ⟨(some 5), .alloc [(.int .i64 0), (.int .i64 0), (.nil true 9), (.int .i64 0), (.int .i64 0), (.int .i64 0), (.int .i64 0), (.int .i64 0), (.int .i64 0), (.int .i64 0), (.int .i64 0), (.int .i64 0), (.nil true 1), (.nil true 1), (.bool false)], none, 393728, 2, []⟩,
   ⟨none, .store 15 (.t 5) (.t 20), none, 393984, 3, []⟩])
 (.seq (.reg [⟨(some 21), .load 15 true (.t 5), none, 458752, 0, []⟩,
   ⟨(some 22), .call 20 [(.t 21)] false, none, 459008, 1, []⟩,
   ⟨(some 6), .alloc [(.int .i64 0), (.int .i64 0), (.nil true 9), (.int .i64 0), (.int .i64 0), (.int .i64 0), (.int .i64 0), (.int .i64 0), (.int .i64 0), (.int .i64 0), (.int .i64 0), (.int .i64 0), (.nil true 1), (.nil true 1), (.bool false)], none, 459264, 2, []⟩,
   ⟨none, .store 15 (.t 6) (.t 22), none, 459520, 3, []⟩])
 (.seq (.seq (.reg [⟨(some 23), .load 15 true (.t 6), none, 524288, 0, []⟩,
   ⟨(some 24), .load 15 true (.t 4), none, 524544, 1, []⟩,
   ⟨(some 25), .call 21 [(.t 23), (.t 24)] true, none, 524800, 2, []⟩,
   ⟨(some 26), .not (.t 25), none, 525056, 3, []⟩])
 (.cond (.t 26)
  (.seq (.reg [⟨(some 2), .mv (.k (.bool false)), none, 589824, 0, []⟩])
  (.ret))
  (.skip)))
 (.seq (.seq (.reg [⟨(some 27), .load 15 true (.t 5), none, 655360, 0, []⟩,
   ⟨(some 28), .load 15 true (.t 1), none, 655616, 1, []⟩,
   ⟨(some 29), .call 19 [(.t 28)] false, none, 655872, 2, []⟩,
   ⟨(some 30), .call 21 [(.t 27), (.t 29)] true, none, 656128, 3, []⟩,
   ⟨(some 31), .not (.t 30), none, 656384, 4, []⟩])
 (.cond (.t 31)
  (.seq (.reg [⟨(some 2), .mv (.k (.bool false)), none, 720896, 0, []⟩])
  (.ret))
  (.skip)))
 (.seq (.reg [⟨(some 7), .mv (.k (.int .i64 1)), none, 786432, 0, []⟩])
 (.seq (.reg [⟨(some 32), .load 15 true (.t 5), none, 851968, 0, []⟩,
   ⟨(some 33), .mv (.t 7), none, 852224, 1, []⟩,
   ⟨(some 34), .call 22 [(.t 32), (.t 33)] true, none, 852480, 2, []⟩,
   ⟨(some 7), .mv (.t 34), none, 852736, 3, []⟩])
 (.seq (.seq (.reg [⟨(some 35), .mv (.t 7), none, 917504, 0, []⟩,
   ⟨(some 36), .bin .lss (.t 35) (.k (.int .i64 0)), none, 917760, 1, []⟩,
   ⟨(some 37), .mv (.t 36), none, 918016, 2, []⟩,
   ⟨(some 38), .load 15 true (.t 6), (some (some 37, false)), 918272, 3, []⟩,
   ⟨(some 39), .load 15 true (.t 4), (some (some 37, false)), 918528, 4, []⟩,
   ⟨(some 40), .call 21 [(.t 38), (.t 39)] true, (some (some 37, false)), 918784, 5, []⟩,
   ⟨(some 41), .not (.t 40), (some (some 37, false)), 919040, 6, []⟩,
   ⟨(some 42), .pick (.t 37) (.k (.bool true)) (.t 41), none, 919296, 7, []⟩])
 (.cond (.t 42)
  (.seq (.reg [⟨(some 2), .mv (.k (.bool false)), none, 983040, 0, []⟩])
  (.ret))
  (.skip)))
 (.seq (.reg [⟨(some 8), .mv (.k (.int .i64 1)), none, 1048576, 0, []⟩])
 (.seq (.reg [⟨(some 43), .load 15 true (.t 6), none, 1114112, 0, []⟩,
   ⟨(some 44), .mv (.t 8), none, 1114368, 1, []⟩,
   ⟨(some 45), .call 22 [(.t 43), (.t 44)] true, none, 1114624, 2, []⟩,
   ⟨(some 8), .mv (.t 45), none, 1114880, 3, []⟩])
 (.seq (.reg [⟨(some 9), .mv (.k (.int .i64 1)), none, 1179648, 0, []⟩])
 (.seq (.reg [⟨(some 46), .load 15 true (.t 6), none, 1245184, 0, []⟩,
   ⟨(some 47), .mv (.t 9), none, 1245440, 1, []⟩,
   ⟨(some 48), .call 23 [(.t 46), (.t 47)] true, none, 1245696, 2, []⟩,
   ⟨(some 9), .mv (.t 48), none, 1245952, 3, []⟩])
 (.seq (.seq (.reg [⟨(some 49), .mv (.t 9), none, 1310720, 0, []⟩,
   ⟨(some 50), .bin .lss (.t 49) (.k (.int .i64 0)), none, 1310976, 1, []⟩])
 (.cond (.t 50)
  (.seq (.reg [⟨(some 2), .mv (.k (.bool false)), none, 1376256, 0, []⟩])
  (.ret))
  (.skip)))
 (.seq (.seq (.reg [⟨(some 51), .mv (.t 9), none, 1441792, 0, []⟩,
   ⟨(some 52), .mv (.t 8), none, 1442048, 1, []⟩,
   ⟨(some 53), .bin .neq (.t 51) (.t 52), none, 1442304, 2, []⟩])
 (.cond (.t 53)
  (.seq (.reg [⟨(some 2), .mv (.k (.bool false)), none, 1507328, 0, []⟩])
  (.ret))
  (.skip)))
 (.seq (.reg [⟨(some 54), .load 15 true (.t 1), none, 1572864, 0, []⟩,
   ⟨(some 55), .call 19 [(.t 54)] false, none, 1573120, 1, []⟩,
   ⟨(some 56), .call 20 [(.t 55)] false, none, 1573376, 2, []⟩,
   ⟨(some 10), .alloc [(.int .i64 0), (.int .i64 0), (.nil true 9), (.int .i64 0), (.int .i64 0), (.int .i64 0), (.int .i64 0), (.int .i64 0), (.int .i64 0), (.int .i64 0), (.int .i64 0), (.int .i64 0), (.nil true 1), (.nil true 1), (.bool false)], none, 1573632, 3, []⟩,
   ⟨none, .store 15 (.t 10) (.t 56), none, 1573888, 4, []⟩])
 (.seq (.seq (.reg [⟨(some 57), .load 15 true (.t 10), none, 1638400, 0, []⟩,
   ⟨(some 58), .load 15 true (.t 4), none, 1638656, 1, []⟩,
   ⟨(some 59), .call 21 [(.t 57), (.t 58)] true, none, 1638912, 2, []⟩,
   ⟨(some 60), .not (.t 59), none, 1639168, 3, []⟩])
 (.cond (.t 60)
  (.seq (.reg [⟨(some 2), .mv (.k (.bool false)), none, 1703936, 0, []⟩])
  (.ret))
  (.skip)))
 (.seq (.reg [⟨(some 9), .mv (.k (.int .i64 1)), none, 1769472, 0, []⟩])
 (.seq (.reg [⟨(some 61), .load 15 true (.t 6), none, 1835008, 0, []⟩,
   ⟨(some 62), .mv (.t 9), none, 1835264, 1, []⟩,
   ⟨(some 63), .call 23 [(.t 61), (.t 62)] true, none, 1835520, 2, []⟩,
   ⟨(some 9), .mv (.t 63), none, 1835776, 3, []⟩])
 (.seq (.seq (.reg [⟨(some 64), .mv (.t 9), none, 1900544, 0, []⟩,
   ⟨(some 65), .bin .lss (.t 64) (.k (.int .i64 0)), none, 1900800, 1, []⟩])
 (.cond (.t 65)
  (.seq (.reg [⟨(some 2), .mv (.k (.bool false)), none, 1966080, 0, []⟩])
  (.ret))
  (.skip)))
 (.seq (.seq (.reg [⟨(some 66), .mv (.t 9), none, 2031616, 0, []⟩,
   ⟨(some 67), .mv (.t 8), none, 2031872, 1, []⟩,
   ⟨(some 68), .bin .neq (.t 66) (.t 67), none, 2032128, 2, []⟩])
 (.cond (.t 68)
  (.seq (.reg [⟨(some 2), .mv (.k (.bool false)), none, 2097152, 0, []⟩])
  (.ret))
  (.skip)))
 (.seq (.reg [⟨(some 2), .mv (.k (.bool true)), none, 2162688, 0, []⟩])
 (.ret)))))))))))))))))))))))))⟩
/-- loop.example/g00849/spec.MonOk -/
def F14 : F := ⟨1, 87, [.t 2],
 .seq (.reg [⟨(some 1), .box (.t 0), none, 0, 0, []⟩,
   ⟨(some 2), .mv (.k (.bool false)), none, 256, 1, []⟩])
 (.seq (.seq (.reg [⟨(some 5), .faddr 1 (.t 1), none, 65536, 0, []⟩,
   ⟨(some 6), .load 1 false (.t 5), none, 65792, 1, []⟩,
   ⟨(some 7), .call 34 [(.t 6), (.k (.int .i64 1)), (.k (.int .i64 5))] true, none, 66048, 2, []⟩,
   ⟨(some 8), .not (.t 7), none, 66304, 3, []⟩,
   ⟨(some 9), .mv (.t 8), none, 66560, 4, []⟩,
   ⟨(some 10), .faddr 0 (.t 1), (some (some 9, false)), 66816, 5, []⟩,
   ⟨(some 11), .load 1 false (.t 10), (some (some 9, false)), 67072, 6, []⟩,
   ⟨(some 12), .faddr 1 (.t 1), (some (some 9, false)), 67328, 7, []⟩,
   ⟨(some 13), .load 1 false (.t 12), (some (some 9, false)), 67584, 8, []⟩,
   ⟨(some 14), .bin .sub (.t 13) (.k (.int .i64 1)), (some (some 9, false)), 67840, 9, []⟩,
   ⟨(some 15), .call 34 [(.t 11), (.k (.int .i64 0)), (.t 14)] true, (some (some 9, false)), 68096, 10, []⟩,
   ⟨(some 16), .not (.t 15), (some (some 9, false)), 68352, 11, []⟩,
   ⟨(some 17), .pick (.t 9) (.k (.bool true)) (.t 16), none, 68608, 12, []⟩,
   ⟨(some 18), .mv (.t 17), none, 68864, 13, []⟩,
   ⟨(some 19), .faddr 2 (.t 1), (some (some 18, false)), 69120, 14, []⟩,
   ⟨(some 20), .load 1 false (.t 19), (some (some 18, false)), 69376, 15, []⟩,
   ⟨(some 21), .len false (.t 20), (some (some 18, false)), 69632, 16, []⟩,
   ⟨(some 22), .bin .gtr (.t 21) (.k (.int .i64 60)), (some (some 18, false)), 69888, 17, []⟩,
   ⟨(some 23), .pick (.t 18) (.k (.bool true)) (.t 22), none, 70144, 18, []⟩])
 (.cond (.t 23)
  (.seq (.reg [⟨(some 2), .mv (.k (.bool false)), none, 131072, 0, []⟩])
  (.ret))
  (.skip)))
 (.seq (.seq (.reg [⟨(some 3), .mv (.k (.int .i64 0)), none, 196608, 0, []⟩])
 (.block 0 (.loop [1, 3] [0, 1, 2, 3, 4, 5]
  (.seq (.seq (.reg [⟨(some 24), .mv (.t 3), none, 262144, 0, []⟩,
    ⟨(some 25), .faddr 2 (.t 1), none, 262400, 1, []⟩,
    ⟨(some 26), .load 1 false (.t 25), none, 262656, 2, []⟩,
    ⟨(some 27), .len false (.t 26), none, 262912, 3, []⟩,
    ⟨(some 28), .bin .lss (.t 24) (.t 27), none, 263168, 4, []⟩])
  (.cond (.t 28)
   (.skip)
   (.exit 0)))
  (.seq (.block 1 (.seq (.reg [⟨(some 31), .faddr 2 (.t 1), none, 393216, 0, []⟩,
    ⟨(some 32), .load 1 false (.t 31), none, 393472, 1, []⟩,
    ⟨(some 33), .mv (.t 3), none, 393728, 2, []⟩,
    ⟨(some 34), .iaddr 9 (.t 32) (.t 33), none, 393984, 3, []⟩,
    ⟨(some 35), .load 9 true (.t 34), none, 394240, 4, []⟩,
    ⟨(some 4), .alloc [(.int .i64 0), (.int .i64 0), (.int .i64 0), (.int .i64 0), (.int .i64 0), (.int .i64 0), (.int .i64 0), (.int .i64 0), (.int .i64 0)], none, 394496, 5, []⟩,
    ⟨none, .store 9 (.t 4) (.t 35), none, 394752, 6, []⟩])
  (.seq (.reg [⟨(some 36), .faddr 0 (.t 4), none, 458752, 0, []⟩,
    ⟨(some 37), .load 1 false (.t 36), none, 459008, 1, []⟩,
    ⟨(some 38), .call 35 [(.t 37)] true, none, 459264, 2, []⟩,
    ⟨(some 39), .not (.t 38), none, 459520, 3, []⟩,
    ⟨(some 40), .mv (.t 39), none, 459776, 4, []⟩,
    ⟨(some 41), .mv (.t 3), (some (some 40, false)), 460032, 5, []⟩,
    ⟨(some 42), .bin .gtr (.t 41) (.k (.int .i64 0)), (some (some 40, false)), 460288, 6, []⟩,
    ⟨(some 43), .mv (.t 42), (some (some 40, false)), 460544, 7, []⟩,
    ⟨(some 44), .faddr 2 (.t 1), (some (some 43, true)), 460800, 8, []⟩,
    ⟨(some 45), .load 1 false (.t 44), (some (some 43, true)), 461056, 9, []⟩,
    ⟨(some 46), .mv (.t 3), (some (some 43, true)), 461312, 10, []⟩,
    ⟨(some 47), .bin .sub (.t 46) (.k (.int .i64 1)), (some (some 43, true)), 461568, 11, []⟩,
    ⟨(some 48), .iaddr 9 (.t 45) (.t 47), (some (some 43, true)), 461824, 12, []⟩,
    ⟨(some 49), .faddr 0 (.t 48), (some (some 43, true)), 462080, 13, []⟩,
    ⟨(some 50), .load 1 false (.t 49), (some (some 43, true)), 462336, 14, []⟩,
    ⟨(some 51), .faddr 0 (.t 4), (some (some 43, true)), 462592, 15, []⟩,
    ⟨(some 52), .load 1 false (.t 51), (some (some 43, true)), 462848, 16, []⟩,
    ⟨(some 53), .bin .geq (.t 50) (.t 52), (some (some 43, true)), 463104, 17, []⟩,
    ⟨(some 54), .pick (.t 43) (.t 53) (.k (.bool false)), (some (some 40, false)), 463360, 18, []⟩,
    ⟨(some 55), .pick (.t 40) (.k (.bool true)) (.t 54), none, 463616, 19, []⟩,
    ⟨(some 56), .mv (.t 55), none, 463872, 20, []⟩,
    ⟨(some 57), .faddr 1 (.t 4), (some (some 56, false)), 464128, 21, []⟩,
    ⟨(some 58), .load 2 true (.t 57), (some (some 56, false)), 464384, 22, []⟩,
    ⟨(some 59), .call 36 [(.t 58)] true, (some (some 56, false)), 464640, 23, []⟩,
    ⟨(some 60), .not (.t 59), (some (some 56, false)), 464896, 24, []⟩,
    ⟨(some 61), .pick (.t 56) (.k (.bool true)) (.t 60), none, 465152, 25, []⟩,
    ⟨(some 62), .mv (.t 61), none, 465408, 26, []⟩,
    ⟨(some 63), .faddr 3 (.t 4), (some (some 62, false)), 465664, 27, []⟩,
    ⟨(some 64), .load 2 true (.t 63), (some (some 62, false)), 465920, 28, []⟩,
    ⟨(some 65), .call 36 [(.t 64)] true, (some (some 62, false)), 466176, 29, []⟩,
    ⟨(some 66), .not (.t 65), (some (some 62, false)), 466432, 30, []⟩,
    ⟨(some 67), .pick (.t 62) (.k (.bool true)) (.t 66), none, 466688, 31, []⟩,
    ⟨(some 68), .mv (.t 67), none, 466944, 32, []⟩,
    ⟨(some 69), .faddr 1 (.t 4), (some (some 68, false)), 467200, 33, []⟩,
    ⟨(some 70), .load 2 true (.t 69), (some (some 68, false)), 467456, 34, []⟩,
    ⟨(some 71), .faddr 3 (.t 4), (some (some 68, false)), 467712, 35, []⟩,
    ⟨(some 72), .load 2 true (.t 71), (some (some 68, false)), 467968, 36, []⟩,
    ⟨(some 73), .call 37 [(.t 70), (.t 72)] true, (some (some 68, false)), 468224, 37, []⟩,
    ⟨(some 74), .pick (.t 68) (.k (.bool true)) (.t 73), none, 468480, 38, []⟩,
    ⟨(some 75), .mv (.t 74), none, 468736, 39, []⟩,
    ⟨(some 76), .faddr 3 (.t 4), (some (some 75, false)), 468992, 40, []⟩,
    ⟨(some 77), .load 2 true (.t 76), (some (some 75, false)), 469248, 41, []⟩,
    ⟨(some 78), .faddr 5 (.t 4), (some (some 75, false)), 469504, 42, []⟩,
    ⟨(some 79), .load 4 true (.t 78), (some (some 75, false)), 469760, 43, []⟩,
    ⟨(some 80), .faddr 0 (.t 4), (some (some 75, false)), 470016, 44, []⟩,
    ⟨(some 81), .load 1 false (.t 80), (some (some 75, false)), 470272, 45, []⟩,
    ⟨(some 82), .call 38 [(.t 77), (.t 79), (.t 81)] true, (some (some 75, false)), 470528, 46, []⟩,
    ⟨(some 83), .not (.t 82), (some (some 75, false)), 470784, 47, []⟩,
    ⟨(some 84), .pick (.t 75) (.k (.bool true)) (.t 83), none, 471040, 48, []⟩])
  (.cond (.t 84)
   (.seq (.reg [⟨(some 2), .mv (.k (.bool false)), none, 524288, 0, []⟩])
   (.ret))
   (.skip)))))
  (.reg [⟨(some 29), .mv (.t 3), none, 327680, 0, []⟩,
    ⟨(some 30), .bin .add (.t 29) (.k (.int .i64 1)), none, 327936, 1, []⟩,
    ⟨(some 3), .mv (.t 30), none, 328192, 2, []⟩]))))))
 (.seq (.reg [⟨(some 85), .load 15 true (.t 1), none, 589824, 0, []⟩,
   ⟨(some 86), .call 39 [(.t 85)] true, none, 590080, 1, []⟩,
   ⟨(some 2), .mv (.t 86), none, 590336, 2, []⟩])
 (.ret))))⟩
/-- loop.example/g00849/laws.szMon -/
def F17 : F := ⟨2, 18, [.t 4],
 .seq (.reg [⟨(some 2), .box (.t 0), none, 0, 0, []⟩,
   ⟨(some 4), .mv (.k (.int .i64 0)), none, 256, 1, []⟩])
 (.seq (.reg [⟨(some 5), .faddr 2 (.t 2), none, 65536, 0, []⟩,
   ⟨(some 6), .load 1 false (.t 5), none, 65792, 1, []⟩,
   ⟨(some 7), .mv (.t 1), none, 66048, 2, []⟩,
   ⟨(some 8), .call 51 [(.t 6), (.t 7)] true, none, 66304, 3, []⟩,
   ⟨(some 1), .mv (.t 8), none, 66560, 4, []⟩])
 (.seq (.seq (.reg [⟨(some 9), .mv (.t 1), none, 131072, 0, []⟩,
   ⟨(some 10), .bin .lss (.t 9) (.k (.int .i64 0)), none, 131328, 1, []⟩])
 (.cond (.t 10)
  (.seq (.reg [⟨(some 4), .mv (.k (.int .i64 (-1))), none, 196608, 0, []⟩])
  (.ret))
  (.skip)))
 (.seq (.reg [⟨(some 11), .faddr 3 (.t 2), none, 262144, 0, []⟩,
   ⟨(some 12), .load 12 true (.t 11), none, 262400, 1, []⟩,
   ⟨(some 13), .mv (.t 1), none, 262656, 2, []⟩,
   ⟨(some 14), .call 52 [(.t 12), (.t 13)] true, none, 262912, 3, []⟩,
   ⟨(some 1), .mv (.t 14), none, 263168, 4, []⟩])
 (.seq (.seq (.reg [⟨(some 15), .mv (.t 1), none, 327680, 0, []⟩,
   ⟨(some 16), .bin .lss (.t 15) (.k (.int .i64 0)), none, 327936, 1, []⟩])
 (.cond (.t 16)
  (.seq (.reg [⟨(some 4), .mv (.k (.int .i64 (-1))), none, 393216, 0, []⟩])
  (.ret))
  (.skip)))
 (.seq (.reg [⟨(some 17), .mv (.t 1), none, 458752, 0, []⟩,
   ⟨(some 4), .mv (.t 17), none, 459008, 1, []⟩])
 (.ret))))))⟩
/-- loop.example/g00849/spec.MonCrash -/
def F18 : F := ⟨1, 13, [.cell 2 15 true],
 .seq (.reg [⟨(some 1), .box (.t 0), none, 0, 0, []⟩,
   ⟨(some 2), .alloc [(.int .i64 0), (.int .i64 0), (.nil true 9), (.int .i64 0), (.int .i64 0), (.int .i64 0), (.int .i64 0), (.int .i64 0), (.int .i64 0), (.int .i64 0), (.int .i64 0), (.int .i64 0), (.nil true 1), (.nil true 1), (.bool false)], none, 256, 1, []⟩])
 (.seq (.seq (.reg [⟨(some 4), .load 15 true (.t 1), none, 65536, 0, []⟩,
   ⟨(some 5), .call 14 [(.t 4)] true, none, 65792, 1, []⟩,
   ⟨(some 6), .not (.t 5), none, 66048, 2, []⟩])
 (.cond (.t 6)
  (.seq (.reg [⟨(some 7), .build [(.int .i64 0), (.int .i64 0), (.nil true 9), (.int .i64 0), (.int .i64 0), (.int .i64 0), (.int .i64 0), (.int .i64 0), (.int .i64 0), (.int .i64 0), (.int .i64 0), (.int .i64 0), (.nil true 1), (.nil true 1), (.bool false)] [], none, 131072, 0, []⟩,
    ⟨none, .store 15 (.t 2) (.t 7), none, 131328, 1, []⟩])
  (.ret))
  (.skip)))
 (.seq (.reg [⟨(some 8), .load 15 true (.t 1), none, 196608, 0, []⟩,
   ⟨(some 9), .call 53 [(.t 8)] false, none, 196864, 1, []⟩,
   ⟨(some 3), .alloc [(.int .i64 0), (.int .i64 0), (.nil true 9), (.int .i64 0), (.int .i64 0), (.int .i64 0), (.int .i64 0), (.int .i64 0), (.int .i64 0), (.int .i64 0), (.int .i64 0), (.int .i64 0), (.nil true 1), (.nil true 1), (.bool false)], none, 197120, 2, []⟩,
   ⟨none, .store 15 (.t 3) (.t 9), none, 197376, 3, []⟩])
 (.seq (.reg [⟨(some 10), .build [(.int .i64 0), (.int .i64 0), (.int .i64 0), (.int .i64 0), (.int .i64 0), (.int .i64 0), (.int .i64 0), (.int .i64 0), (.int .i64 0), (.nil true 1), (.nil true 1), (.bool false)] [], none, 262144, 0, []⟩,
   ⟨(some 11), .faddr 3 (.t 3), none, 262400, 1, []⟩,
   ⟨none, .store 12 (.t 11) (.t 10), none, 262656, 2, []⟩])
 (.seq (.reg [⟨(some 12), .load 15 true (.t 3), none, 327680, 0, []⟩,
   ⟨none, .store 15 (.t 2) (.t 12), none, 327936, 1, []⟩])
 (.ret)))))⟩
/-- loop.example/g00849/laws.toMon -/
def F19 : F := ⟨1, 19, [.cell 2 15 true],
 .seq (.reg [⟨(some 1), .box (.t 0), none, 0, 0, []⟩,
   ⟨(some 2), .alloc [(.int .i64 0), (.int .i64 0), (.nil true 9), (.int .i64 0), (.int .i64 0), (.int .i64 0), (.int .i64 0), (.int .i64 0), (.int .i64 0), (.int .i64 0), (.int .i64 0), (.int .i64 0), (.nil true 1), (.nil true 1), (.bool false)], none, 256, 1, []⟩])
 (.seq (.reg [⟨(some 3), .alloc [(.int .i64 0), (.int .i64 0), (.nil true 9), (.int .i64 0), (.int .i64 0), (.int .i64 0), (.int .i64 0), (.int .i64 0), (.int .i64 0), (.int .i64 0), (.int .i64 0), (.int .i64 0), (.nil true 1), (.nil true 1), (.bool false)], none, 65536, 0, []⟩])
 (.seq (.reg [⟨(some 4), .faddr 0 (.t 1), none, 131072, 0, []⟩,
   ⟨(some 5), .load 1 false (.t 4), none, 131328, 1, []⟩,
   ⟨(some 6), .faddr 0 (.t 3), none, 131584, 2, []⟩,
   ⟨none, .store 1 (.t 6) (.t 5), none, 131840, 3, []⟩])
 (.seq (.reg [⟨(some 7), .faddr 1 (.t 1), none, 196608, 0, []⟩,
   ⟨(some 8), .load 1 false (.t 7), none, 196864, 1, []⟩,
   ⟨(some 9), .faddr 1 (.t 3), none, 197120, 2, []⟩,
   ⟨none, .store 1 (.t 9) (.t 8), none, 197376, 3, []⟩])
 (.seq (.reg [⟨(some 10), .faddr 2 (.t 1), none, 262144, 0, []⟩,
   ⟨(some 11), .load 1 false (.t 10), none, 262400, 1, []⟩,
   ⟨(some 12), .call 54 [(.t 11)] false, none, 262656, 2, []⟩,
   ⟨(some 13), .faddr 2 (.t 3), none, 262912, 3, []⟩,
   ⟨none, .store 1 (.t 13) (.t 12), none, 263168, 4, []⟩])
 (.seq (.reg [⟨(some 14), .faddr 3 (.t 1), none, 327680, 0, []⟩,
   ⟨(some 15), .load 12 true (.t 14), none, 327936, 1, []⟩,
   ⟨(some 16), .call 55 [(.t 15)] false, none, 328192, 2, []⟩,
   ⟨(some 17), .faddr 3 (.t 3), none, 328448, 3, []⟩,
   ⟨none, .store 12 (.t 17) (.t 16), none, 328704, 4, []⟩])
 (.seq (.reg [⟨(some 18), .load 15 true (.t 3), none, 393216, 0, []⟩,
   ⟨none, .store 15 (.t 2) (.t 18), none, 393472, 1, []⟩])
 (.ret)))))))⟩
/-- loop.example/g00849/impl.MonCrash -/
def F20 : F := ⟨1, 13, [.cell 2 15 true],
 .seq (.reg [⟨(some 1), .box (.t 0), none, 0, 0, []⟩,
   ⟨(some 2), .alloc [(.int .i64 0), (.int .i64 0), (.nil true 9), (.int .i64 0), (.int .i64 0), (.int .i64 0), (.int .i64 0), (.int .i64 0), (.int .i64 0), (.int .i64 0), (.int .i64 0), (.int .i64 0), (.nil true 1), (.nil true 1), (.bool false)], none, 256, 1, []⟩])
 (.seq (.seq (.reg [⟨(some 4), .load 15 true (.t 1), none, 65536, 0, []⟩,
   ⟨(some 5), .call 33 [(.t 4)] true, none, 65792, 1, []⟩,
   ⟨(some 6), .not (.t 5), none, 66048, 2, []⟩])
 (.cond (.t 6)
  (.seq (.reg [⟨(some 7), .build [(.int .i64 0), (.int .i64 0), (.nil true 9), (.int .i64 0), (.int .i64 0), (.int .i64 0), (.int .i64 0), (.int .i64 0), (.int .i64 0), (.int .i64 0), (.int .i64 0), (.int .i64 0), (.nil true 1), (.nil true 1), (.bool false)] [], none, 131072, 0, []⟩,
    ⟨none, .store 15 (.t 2) (.t 7), none, 131328, 1, []⟩])
  (.ret))
  (.skip)))
 (.seq (.reg [⟨(some 8), .load 15 true (.t 1), none, 196608, 0, []⟩,
   ⟨(some 9), .call 43 [(.t 8)] false, none, 196864, 1, []⟩,
   ⟨(some 3), .alloc [(.int .i64 0), (.int .i64 0), (.nil true 9), (.int .i64 0), (.int .i64 0), (.int .i64 0), (.int .i64 0), (.int .i64 0), (.int .i64 0), (.int .i64 0), (.int .i64 0), (.int .i64 0), (.nil true 1), (.nil true 1), (.bool false)], none, 197120, 2, []⟩,
   ⟨none, .store 15 (.t 3) (.t 9), none, 197376, 3, []⟩])
 (.seq (.reg [⟨(some 10), .build [(.int .i64 0), (.int .i64 0), (.int .i64 0), (.int .i64 0), (.int .i64 0), (.int .i64 0), (.int .i64 0), (.int .i64 0), (.int .i64 0), (.nil true 1), (.nil true 1), (.bool false)] [], none, 262144, 0, []⟩,
   ⟨(some 11), .faddr 3 (.t 3), none, 262400, 1, []⟩,
   ⟨none, .store 12 (.t 11) (.t 10), none, 262656, 2, []⟩])
 (.seq (.reg [⟨(some 12), .load 15 true (.t 3), none, 327680, 0, []⟩,
   ⟨none, .store 15 (.t 2) (.t 12), none, 327936, 1, []⟩])
 (.ret)))))⟩
/-- loop.example/g00849/laws.eqMon -/
def F21 : F := ⟨2, 27, [.t 4],
 .seq (.reg [⟨(some 2), .box (.t 0), none, 0, 0, []⟩,
   ⟨(some 3), .box (.t 1), none, 256, 1, []⟩,
   ⟨(some 4), .mv (.k (.bool false)), none, 512, 2, []⟩])
 (.seq (.seq (.reg [⟨(some 5), .faddr 0 (.t 2), none, 65536, 0, []⟩,
   ⟨(some 6), .load 1 false (.t 5), none, 65792, 1, []⟩,
   ⟨(some 7), .faddr 0 (.t 3), none, 66048, 2, []⟩,
   ⟨(some 8), .load 1 false (.t 7), none, 66304, 3, []⟩,
   ⟨(some 9), .bin .neq (.t 6) (.t 8), none, 66560, 4, []⟩])
 (.cond (.t 9)
  (.seq (.reg [⟨(some 4), .mv (.k (.bool false)), none, 131072, 0, []⟩])
  (.ret))
  (.skip)))
 (.seq (.seq (.reg [⟨(some 10), .faddr 1 (.t 2), none, 196608, 0, []⟩,
   ⟨(some 11), .load 1 false (.t 10), none, 196864, 1, []⟩,
   ⟨(some 12), .faddr 1 (.t 3), none, 197120, 2, []⟩,
   ⟨(some 13), .load 1 false (.t 12), none, 197376, 3, []⟩,
   ⟨(some 14), .bin .neq (.t 11) (.t 13), none, 197632, 4, []⟩])
 (.cond (.t 14)
  (.seq (.reg [⟨(some 4), .mv (.k (.bool false)), none, 262144, 0, []⟩])
  (.ret))
  (.skip)))
 (.seq (.seq (.reg [⟨(some 15), .faddr 2 (.t 2), none, 327680, 0, []⟩,
   ⟨(some 16), .load 1 false (.t 15), none, 327936, 1, []⟩,
   ⟨(some 17), .faddr 2 (.t 3), none, 328192, 2, []⟩,
   ⟨(some 18), .load 1 false (.t 17), none, 328448, 3, []⟩,
   ⟨(some 19), .call 56 [(.t 16), (.t 18)] true, none, 328704, 4, []⟩,
   ⟨(some 20), .not (.t 19), none, 328960, 5, []⟩])
 (.cond (.t 20)
  (.seq (.reg [⟨(some 4), .mv (.k (.bool false)), none, 393216, 0, []⟩])
  (.ret))
  (.skip)))
 (.seq (.seq (.reg [⟨(some 21), .faddr 3 (.t 2), none, 458752, 0, []⟩,
   ⟨(some 22), .load 12 true (.t 21), none, 459008, 1, []⟩,
   ⟨(some 23), .faddr 3 (.t 3), none, 459264, 2, []⟩,
   ⟨(some 24), .load 12 true (.t 23), none, 459520, 3, []⟩,
   ⟨(some 25), .call 57 [(.t 22), (.t 24)] true, none, 459776, 4, []⟩,
   ⟨(some 26), .not (.t 25), none, 460032, 5, []⟩])
 (.cond (.t 26)
  (.seq (.reg [⟨(some 4), .mv (.k (.bool false)), none, 524288, 0, []⟩])
  (.ret))
  (.skip)))
 (.seq (.reg [⟨(some 4), .mv (.k (.bool true)), none, 589824, 0, []⟩])
 (.ret))))))⟩
/-- loop.example/g00849/laws.markMon -/
def F22 : F := ⟨2, 14, [.t 4],
 .seq (.reg [⟨(some 2), .box (.t 0), none, 0, 0, []⟩,
   ⟨(some 4), .mv (.k (.int .i64 0)), none, 256, 1, []⟩])
 (.seq (.reg [⟨(some 5), .faddr 2 (.t 2), none, 65536, 0, []⟩,
   ⟨(some 6), .load 1 false (.t 5), none, 65792, 1, []⟩,
   ⟨(some 7), .mv (.t 1), none, 66048, 2, []⟩,
   ⟨(some 8), .call 58 [(.t 6), (.t 7)] true, none, 66304, 3, []⟩,
   ⟨(some 1), .mv (.t 8), none, 66560, 4, []⟩])
 (.seq (.reg [⟨(some 9), .faddr 3 (.t 2), none, 131072, 0, []⟩,
   ⟨(some 10), .load 12 true (.t 9), none, 131328, 1, []⟩,
   ⟨(some 11), .mv (.t 1), none, 131584, 2, []⟩,
   ⟨(some 12), .call 59 [(.t 10), (.t 11)] true, none, 131840, 3, []⟩,
   ⟨(some 1), .mv (.t 12), none, 132096, 4, []⟩])
 (.seq (.reg [⟨(some 13), .mv (.t 1), none, 196608, 0, []⟩,
   ⟨(some 4), .mv (.t 13), none, 196864, 1, []⟩])
 (.ret))))⟩
/-- loop.example/g00849/laws.heldMon -/
def F23 : F := ⟨2, 18, [.t 4],
 .seq (.reg [⟨(some 2), .box (.t 0), none, 0, 0, []⟩,
   ⟨(some 4), .mv (.k (.int .i64 0)), none, 256, 1, []⟩])
 (.seq (.reg [⟨(some 5), .faddr 2 (.t 2), none, 65536, 0, []⟩,
   ⟨(some 6), .load 1 false (.t 5), none, 65792, 1, []⟩,
   ⟨(some 7), .mv (.t 1), none, 66048, 2, []⟩,
   ⟨(some 8), .call 60 [(.t 6), (.t 7)] true, none, 66304, 3, []⟩,
   ⟨(some 1), .mv (.t 8), none, 66560, 4, []⟩])
 (.seq (.seq (.reg [⟨(some 9), .mv (.t 1), none, 131072, 0, []⟩,
   ⟨(some 10), .bin .lss (.t 9) (.k (.int .i64 0)), none, 131328, 1, []⟩])
 (.cond (.t 10)
  (.seq (.reg [⟨(some 4), .mv (.k (.int .i64 (-1))), none, 196608, 0, []⟩])
  (.ret))
  (.skip)))
 (.seq (.reg [⟨(some 11), .faddr 3 (.t 2), none, 262144, 0, []⟩,
   ⟨(some 12), .load 12 true (.t 11), none, 262400, 1, []⟩,
   ⟨(some 13), .mv (.t 1), none, 262656, 2, []⟩,
   ⟨(some 14), .call 61 [(.t 12), (.t 13)] true, none, 262912, 3, []⟩,
   ⟨(some 1), .mv (.t 14), none, 263168, 4, []⟩])
 (.seq (.seq (.reg [⟨(some 15), .mv (.t 1), none, 327680, 0, []⟩,
   ⟨(some 16), .bin .lss (.t 15) (.k (.int .i64 0)), none, 327936, 1, []⟩])
 (.cond (.t 16)
  (.seq (.reg [⟨(some 4), .mv (.k (.int .i64 (-1))), none, 393216, 0, []⟩])
  (.ret))
  (.skip)))
 (.seq (.reg [⟨(some 17), .mv (.t 1), none, 458752, 0, []⟩,
   ⟨(some 4), .mv (.t 17), none, 459008, 1, []⟩])
 (.ret))))))⟩
/-- loop.example/g00849/laws.toInc -/
def F25 : F := ⟨1, 17, [.cell 2 4 true],
 .seq (.reg [⟨(some 1), .box (.t 0), none, 0, 0, []⟩,
   ⟨(some 2), .alloc [(.int .i64 0), (.int .i64 0), (.int .i64 0), (.int .i64 0)], none, 256, 1, []⟩])
 (.seq (.reg [⟨(some 3), .alloc [(.int .i64 0), (.int .i64 0), (.int .i64 0), (.int .i64 0)], none, 65536, 0, []⟩])
 (.seq (.reg [⟨(some 4), .faddr 0 (.t 1), none, 131072, 0, []⟩,
   ⟨(some 5), .load 1 false (.t 4), none, 131328, 1, []⟩,
   ⟨(some 6), .faddr 0 (.t 3), none, 131584, 2, []⟩,
   ⟨none, .store 1 (.t 6) (.t 5), none, 131840, 3, []⟩])
 (.seq (.reg [⟨(some 7), .faddr 1 (.t 1), none, 196608, 0, []⟩,
   ⟨(some 8), .load 1 false (.t 7), none, 196864, 1, []⟩,
   ⟨(some 9), .faddr 1 (.t 3), none, 197120, 2, []⟩,
   ⟨none, .store 1 (.t 9) (.t 8), none, 197376, 3, []⟩])
 (.seq (.reg [⟨(some 10), .faddr 2 (.t 1), none, 262144, 0, []⟩,
   ⟨(some 11), .load 1 false (.t 10), none, 262400, 1, []⟩,
   ⟨(some 12), .faddr 2 (.t 3), none, 262656, 2, []⟩,
   ⟨none, .store 1 (.t 12) (.t 11), none, 262912, 3, []⟩])
 (.seq (.reg [⟨(some 13), .faddr 3 (.t 1), none, 327680, 0, []⟩,
   ⟨(some 14), .load 1 false (.t 13), none, 327936, 1, []⟩,
   ⟨(some 15), .faddr 3 (.t 3), none, 328192, 2, []⟩,
   ⟨none, .store 1 (.t 15) (.t 14), none, 328448, 3, []⟩])
 (.seq (.reg [⟨(some 16), .load 4 true (.t 3), none, 393216, 0, []⟩,
   ⟨none, .store 4 (.t 2) (.t 16), none, 393472, 1, []⟩])
 (.ret)))))))⟩
/-- (loop.example/g00849/impl.Mon).majority -/
def F32 : F := ⟨2, 11, [.t 4],
 .seq (.reg [⟨(some 2), .box (.t 0), none, 0, 0, []⟩,
   ⟨(some 4), .mv (.k (.bool false)), none, 256, 1, []⟩])
 (.seq (.reg [⟨(some 5), .mv (.t 1), none, 65536, 0, []⟩,
   ⟨(some 6), .len false (.t 5), none, 65792, 1, []⟩,
   ⟨(some 7), .bin .mul (.k (.int .i64 2)) (.t 6), none, 66048, 2, []⟩,
   ⟨(some 8), .faddr 1 (.t 2), none, 66304, 3, []⟩,
   ⟨(some 9), .load 1 false (.t 8), none, 66560, 4, []⟩,
   ⟨(some 10), .bin .gtr (.t 7) (.t 9), none, 66816, 5, []⟩,
   ⟨(some 4), .mv (.t 10), none, 67072, 6, []⟩])
 (.ret))⟩
/-- loop.example/g00849/impl.MonOk -/
def F33 : F := ⟨1, 51, [.t 2],
 .seq (.reg [⟨(some 1), .box (.t 0), none, 0, 0, []⟩,
   ⟨(some 2), .mv (.k (.bool false)), none, 256, 1, []⟩])
 (.seq (.seq (.reg [⟨(some 5), .faddr 1 (.t 1), none, 65536, 0, []⟩,
   ⟨(some 6), .load 1 false (.t 5), none, 65792, 1, []⟩,
   ⟨(some 7), .call 41 [(.t 6), (.k (.int .i64 1)), (.k (.int .i64 5))] true, none, 66048, 2, []⟩,
   ⟨(some 8), .not (.t 7), none, 66304, 3, []⟩,
   ⟨(some 9), .mv (.t 8), none, 66560, 4, []⟩,
   ⟨(some 10), .faddr 0 (.t 1), (some (some 9, false)), 66816, 5, []⟩,
   ⟨(some 11), .load 1 false (.t 10), (some (some 9, false)), 67072, 6, []⟩,
   ⟨(some 12), .faddr 1 (.t 1), (some (some 9, false)), 67328, 7, []⟩,
   ⟨(some 13), .load 1 false (.t 12), (some (some 9, false)), 67584, 8, []⟩,
   ⟨(some 14), .bin .sub (.t 13) (.k (.int .i64 1)), (some (some 9, false)), 67840, 9, []⟩,
   ⟨(some 15), .call 41 [(.t 11), (.k (.int .i64 0)), (.t 14)] true, (some (some 9, false)), 68096, 10, []⟩,
   ⟨(some 16), .not (.t 15), (some (some 9, false)), 68352, 11, []⟩,
   ⟨(some 17), .pick (.t 9) (.k (.bool true)) (.t 16), none, 68608, 12, []⟩,
   ⟨(some 18), .mv (.t 17), none, 68864, 13, []⟩,
   ⟨(some 19), .load 15 true (.t 1), (some (some 18, false)), 69120, 14, []⟩,
   ⟨(some 20), .call 67 [(.t 19)] true, (some (some 18, false)), 69376, 15, []⟩,
   ⟨(some 21), .not (.t 20), (some (some 18, false)), 69632, 16, []⟩,
   ⟨(some 22), .pick (.t 18) (.k (.bool true)) (.t 21), none, 69888, 17, []⟩])
 (.cond (.t 22)
  (.seq (.reg [⟨(some 2), .mv (.k (.bool false)), none, 131072, 0, []⟩])
  (.ret))
  (.skip)))
 (.seq (.seq (.reg [⟨(some 23), .faddr 2 (.t 1), none, 196608, 0, []⟩,
   ⟨(some 24), .load 1 false (.t 23), none, 196864, 1, []⟩,
   ⟨(some 25), .len false (.t 24), none, 197120, 2, []⟩,
   ⟨(some 26), .mv (.k (.int .i64 0)), none, 197376, 3, []⟩])
 (.block 0 (.loop [1, 24, 25, 26] [0, 1, 2, 3, 4, 5]
  (.seq (.reg [⟨(some 27), .bin .lss (.t 26) (.t 25), none, 262144, 0, []⟩])
  (.seq (.cond (.t 27)
   (.skip)
   (.exit 0))
  (.seq (.block 1 (.seq (.reg [⟨(some 28), .mv (.t 26), none, 327680, 0, []⟩,
    ⟨(some 29), .iaddr 9 (.t 24) (.t 26), none, 327936, 1, []⟩,
    ⟨(some 30), .load 9 true (.t 29), none, 328192, 2, []⟩,
    ⟨(some 4), .alloc [(.int .i64 0), (.int .i64 0), (.int .i64 0), (.int .i64 0), (.int .i64 0), (.int .i64 0), (.int .i64 0), (.int .i64 0), (.int .i64 0)], none, 328448, 3, []⟩,
    ⟨(some 3), .mv (.t 28), none, 328704, 4, []⟩,
    ⟨none, .store 9 (.t 4) (.t 30), none, 328960, 5, []⟩])
  (.seq (.reg [⟨(some 31), .load 9 true (.t 4), none, 393216, 0, []⟩,
    ⟨(some 32), .call 68 [(.t 31)] true, none, 393472, 1, []⟩,
    ⟨(some 33), .not (.t 32), none, 393728, 2, []⟩,
    ⟨(some 34), .mv (.t 33), none, 393984, 3, []⟩,
    ⟨(some 35), .mv (.t 3), (some (some 34, false)), 394240, 4, []⟩,
    ⟨(some 36), .bin .gtr (.t 35) (.k (.int .i64 0)), (some (some 34, false)), 394496, 5, []⟩,
    ⟨(some 37), .mv (.t 36), (some (some 34, false)), 394752, 6, []⟩,
    ⟨(some 38), .faddr 0 (.t 4), (some (some 37, true)), 395008, 7, []⟩,
    ⟨(some 39), .load 1 false (.t 38), (some (some 37, true)), 395264, 8, []⟩,
    ⟨(some 40), .faddr 2 (.t 1), (some (some 37, true)), 395520, 9, []⟩,
    ⟨(some 41), .load 1 false (.t 40), (some (some 37, true)), 395776, 10, []⟩,
    ⟨(some 42), .mv (.t 3), (some (some 37, true)), 396032, 11, []⟩,
    ⟨(some 43), .bin .sub (.t 42) (.k (.int .i64 1)), (some (some 37, true)), 396288, 12, []⟩,
    ⟨(some 44), .iaddr 9 (.t 41) (.t 43), (some (some 37, true)), 396544, 13, []⟩,
    ⟨(some 45), .faddr 0 (.t 44), (some (some 37, true)), 396800, 14, []⟩,
    ⟨(some 46), .load 1 false (.t 45), (some (some 37, true)), 397056, 15, []⟩,
    ⟨(some 47), .bin .leq (.t 39) (.t 46), (some (some 37, true)), 397312, 16, []⟩,
    ⟨(some 48), .pick (.t 37) (.t 47) (.k (.bool false)), (some (some 34, false)), 397568, 17, []⟩,
    ⟨(some 49), .pick (.t 34) (.k (.bool true)) (.t 48), none, 397824, 18, []⟩])
  (.cond (.t 49)
   (.seq (.reg [⟨(some 2), .mv (.k (.bool false)), none, 458752, 0, []⟩])
   (.ret))
   (.skip)))))
  (.reg [⟨(some 50), .bin .add (.t 26) (.k (.int .i64 1)), none, 524288, 0, []⟩,
    ⟨(some 26), .mv (.t 50), none, 524544, 1, []⟩])))))))
 (.seq (.reg [⟨(some 2), .mv (.k (.bool true)), none, 589824, 0, []⟩])
 (.ret))))⟩
/-- loop.example/g00849/spec.l00In -/
def F34 : F := ⟨3, 15, [.t 6],
 .seq (.reg [⟨(some 6), .mv (.k (.bool false)), none, 0, 0, []⟩])
 (.seq (.reg [⟨(some 7), .mv (.t 0), none, 65536, 0, []⟩,
   ⟨(some 8), .mv (.t 1), none, 65792, 1, []⟩,
   ⟨(some 9), .bin .geq (.t 7) (.t 8), none, 66048, 2, []⟩,
   ⟨(some 10), .mv (.t 9), none, 66304, 3, []⟩,
   ⟨(some 11), .mv (.t 0), (some (some 10, true)), 66560, 4, []⟩,
   ⟨(some 12), .mv (.t 2), (some (some 10, true)), 66816, 5, []⟩,
   ⟨(some 13), .bin .leq (.t 11) (.t 12), (some (some 10, true)), 67072, 6, []⟩,
   ⟨(some 14), .pick (.t 10) (.t 13) (.k (.bool false)), none, 67328, 7, []⟩,
   ⟨(some 6), .mv (.t 14), none, 67584, 8, []⟩])
 (.ret))⟩
/-- loop.example/g00849/spec.l21Epoch -/
def F35 : F := ⟨1, 5, [.t 2],
 .seq (.reg [⟨(some 2), .mv (.k (.bool false)), none, 0, 0, []⟩])
 (.seq (.reg [⟨(some 3), .mv (.t 0), none, 65536, 0, []⟩,
   ⟨(some 4), .call 34 [(.t 3), (.k (.int .i64 2)), (.k (.int .i64 60))] true, none, 65792, 1, []⟩,
   ⟨(some 2), .mv (.t 4), none, 66048, 2, []⟩])
 (.ret))⟩
/-- loop.example/g00849/spec.l21Ballot -/
def F36 : F := ⟨1, 16, [.t 2],
 .seq (.reg [⟨(some 1), .box (.t 0), none, 0, 0, []⟩,
   ⟨(some 2), .mv (.k (.bool false)), none, 256, 1, []⟩])
 (.seq (.reg [⟨(some 3), .load 2 true (.t 1), none, 65536, 0, []⟩,
   ⟨(some 4), .build [(.int .i64 0), (.int .i64 0)] [], none, 65792, 1, []⟩,
   ⟨(some 5), .eqv false true [.i, .i] (.t 3) (.t 4), none, 66048, 2, []⟩,
   ⟨(some 6), .mv (.t 5), none, 66304, 3, []⟩,
   ⟨(some 7), .faddr 0 (.t 1), (some (some 6, false)), 66560, 4, []⟩,
   ⟨(some 8), .load 1 false (.t 7), (some (some 6, false)), 66816, 5, []⟩,
   ⟨(some 9), .call 34 [(.t 8), (.k (.int .i64 1)), (.k (.int .i64 999))] true, (some (some 6, false)), 67072, 6, []⟩,
   ⟨(some 10), .mv (.t 9), (some (some 6, false)), 67328, 7, []⟩,
   ⟨(some 11), .faddr 1 (.t 1), (some (some 10, true)), 67584, 8, []⟩,
   ⟨(some 12), .load 1 false (.t 11), (some (some 10, true)), 67840, 9, []⟩,
   ⟨(some 13), .call 34 [(.t 12), (.k (.int .i64 0)), (.k (.int .i64 4))] true, (some (some 10, true)), 68096, 10, []⟩,
   ⟨(some 14), .pick (.t 10) (.t 13) (.k (.bool false)), (some (some 6, false)), 68352, 11, []⟩,
   ⟨(some 15), .pick (.t 6) (.k (.bool true)) (.t 14), none, 68608, 12, []⟩,
   ⟨(some 2), .mv (.t 15), none, 68864, 13, []⟩])
 (.ret))⟩
/-- loop.example/g00849/spec.l21Less -/
def F37 : F := ⟨2, 24, [.t 4],
 .seq (.reg [⟨(some 2), .box (.t 0), none, 0, 0, []⟩,
   ⟨(some 3), .box (.t 1), none, 256, 1, []⟩,
   ⟨(some 4), .mv (.k (.bool false)), none, 512, 2, []⟩])
 (.seq (.reg [⟨(some 5), .faddr 0 (.t 2), none, 65536, 0, []⟩,
   ⟨(some 6), .load 1 false (.t 5), none, 65792, 1, []⟩,
   ⟨(some 7), .faddr 0 (.t 3), none, 66048, 2, []⟩,
   ⟨(some 8), .load 1 false (.t 7), none, 66304, 3, []⟩,
   ⟨(some 9), .bin .lss (.t 6) (.t 8), none, 66560, 4, []⟩,
   ⟨(some 10), .mv (.t 9), none, 66816, 5, []⟩,
   ⟨(some 11), .faddr 0 (.t 2), (some (some 10, false)), 67072, 6, []⟩,
   ⟨(some 12), .load 1 false (.t 11), (some (some 10, false)), 67328, 7, []⟩,
   ⟨(some 13), .faddr 0 (.t 3), (some (some 10, false)), 67584, 8, []⟩,
   ⟨(some 14), .load 1 false (.t 13), (some (some 10, false)), 67840, 9, []⟩,
   ⟨(some 15), .bin .eql (.t 12) (.t 14), (some (some 10, false)), 68096, 10, []⟩,
   ⟨(some 16), .mv (.t 15), (some (some 10, false)), 68352, 11, []⟩,
   ⟨(some 17), .faddr 1 (.t 2), (some (some 16, true)), 68608, 12, []⟩,
   ⟨(some 18), .load 1 false (.t 17), (some (some 16, true)), 68864, 13, []⟩,
   ⟨(some 19), .faddr 1 (.t 3), (some (some 16, true)), 69120, 14, []⟩,
   ⟨(some 20), .load 1 false (.t 19), (some (some 16, true)), 69376, 15, []⟩,
   ⟨(some 21), .bin .lss (.t 18) (.t 20), (some (some 16, true)), 69632, 16, []⟩,
   ⟨(some 22), .pick (.t 16) (.t 21) (.k (.bool false)), (some (some 10, false)), 69888, 17, []⟩,
   ⟨(some 23), .pick (.t 10) (.k (.bool true)) (.t 22), none, 70144, 18, []⟩,
   ⟨(some 4), .mv (.t 23), none, 70400, 19, []⟩])
 (.ret))⟩
/-- loop.example/g00849/spec.l21Value -/
def F38 : F := ⟨3, 21, [.t 6],
 .seq (.reg [⟨(some 3), .box (.t 0), none, 0, 0, []⟩,
   ⟨(some 4), .box (.t 1), none, 256, 1, []⟩,
   ⟨(some 6), .mv (.k (.bool false)), none, 512, 2, []⟩])
 (.seq (.seq (.reg [⟨(some 7), .load 2 true (.t 3), none, 65536, 0, []⟩,
   ⟨(some 8), .build [(.int .i64 0), (.int .i64 0)] [], none, 65792, 1, []⟩,
   ⟨(some 9), .eqv false true [.i, .i] (.t 7) (.t 8), none, 66048, 2, []⟩])
 (.cond (.t 9)
  (.seq (.reg [⟨(some 10), .load 4 true (.t 4), none, 131072, 0, []⟩,
    ⟨(some 11), .build [(.int .i64 0), (.int .i64 0), (.int .i64 0), (.int .i64 0)] [], none, 131328, 1, []⟩,
    ⟨(some 12), .eqv false true [.i, .i, .i, .i] (.t 10) (.t 11), none, 131584, 2, []⟩,
    ⟨(some 6), .mv (.t 12), none, 131840, 3, []⟩])
  (.ret))
  (.skip)))
 (.seq (.reg [⟨(some 13), .load 4 true (.t 4), none, 196608, 0, []⟩,
   ⟨(some 14), .call 62 [(.t 13)] true, none, 196864, 1, []⟩,
   ⟨(some 15), .mv (.t 14), none, 197120, 2, []⟩,
   ⟨(some 16), .faddr 0 (.t 4), (some (some 15, true)), 197376, 3, []⟩,
   ⟨(some 17), .load 1 false (.t 16), (some (some 15, true)), 197632, 4, []⟩,
   ⟨(some 18), .mv (.t 2), (some (some 15, true)), 197888, 5, []⟩,
   ⟨(some 19), .bin .eql (.t 17) (.t 18), (some (some 15, true)), 198144, 6, []⟩,
   ⟨(some 20), .pick (.t 15) (.t 19) (.k (.bool false)), none, 198400, 7, []⟩,
   ⟨(some 6), .mv (.t 20), none, 198656, 8, []⟩])
 (.ret)))⟩
/-- loop.example/g00849/spec.l21Try -/
def F39 : F := ⟨1, 126, [.t 2],
 .seq (.reg [⟨(some 1), .box (.t 0), none, 0, 0, []⟩,
   ⟨(some 2), .mv (.k (.bool false)), none, 256, 1, []⟩])
 (.seq (.reg [⟨(some 4), .faddr 3 (.t 1), none, 65536, 0, []⟩,
   ⟨(some 5), .load 12 true (.t 4), none, 65792, 1, []⟩,
   ⟨(some 3), .alloc [(.int .i64 0), (.int .i64 0), (.int .i64 0), (.int .i64 0), (.int .i64 0), (.int .i64 0), (.int .i64 0), (.int .i64 0), (.int .i64 0), (.nil true 1), (.nil true 1), (.bool false)], none, 66048, 2, []⟩,
   ⟨none, .store 12 (.t 3) (.t 5), none, 66304, 3, []⟩])
 (.seq (.seq (.reg [⟨(some 6), .faddr 0 (.t 3), none, 131072, 0, []⟩,
   ⟨(some 7), .load 1 false (.t 6), none, 131328, 1, []⟩,
   ⟨(some 8), .bin .eql (.t 7) (.k (.int .i64 0)), none, 131584, 2, []⟩])
 (.cond (.t 8)
  (.seq (.reg [⟨(some 9), .faddr 1 (.t 3), none, 196608, 0, []⟩,
    ⟨(some 10), .load 2 true (.t 9), none, 196864, 1, []⟩,
    ⟨(some 11), .build [(.int .i64 0), (.int .i64 0)] [], none, 197120, 2, []⟩,
    ⟨(some 12), .eqv false true [.i, .i] (.t 10) (.t 11), none, 197376, 3, []⟩,
    ⟨(some 13), .mv (.t 12), none, 197632, 4, []⟩,
    ⟨(some 14), .faddr 3 (.t 3), (some (some 13, true)), 197888, 5, []⟩,
    ⟨(some 15), .load 4 true (.t 14), (some (some 13, true)), 198144, 6, []⟩,
    ⟨(some 16), .build [(.int .i64 0), (.int .i64 0), (.int .i64 0), (.int .i64 0)] [], (some (some 13, true)), 198400, 7, []⟩,
    ⟨(some 17), .eqv false true [.i, .i, .i, .i] (.t 15) (.t 16), (some (some 13, true)), 198656, 8, []⟩,
    ⟨(some 18), .pick (.t 13) (.t 17) (.k (.bool false)), none, 198912, 9, []⟩,
    ⟨(some 19), .mv (.t 18), none, 199168, 10, []⟩,
    ⟨(some 20), .faddr 7 (.t 3), (some (some 19, true)), 199424, 11, []⟩,
    ⟨(some 21), .load 2 true (.t 20), (some (some 19, true)), 199680, 12, []⟩,
    ⟨(some 22), .build [(.int .i64 0), (.int .i64 0)] [], (some (some 19, true)), 199936, 13, []⟩,
    ⟨(some 23), .eqv false true [.i, .i] (.t 21) (.t 22), (some (some 19, true)), 200192, 14, []⟩,
    ⟨(some 24), .pick (.t 19) (.t 23) (.k (.bool false)), none, 200448, 15, []⟩,
    ⟨(some 25), .mv (.t 24), none, 200704, 16, []⟩,
    ⟨(some 26), .faddr 9 (.t 3), (some (some 25, true)), 200960, 17, []⟩,
    ⟨(some 27), .load 1 false (.t 26), (some (some 25, true)), 201216, 18, []⟩,
    ⟨(some 28), .len false (.t 27), (some (some 25, true)), 201472, 19, []⟩,
    ⟨(some 29), .bin .eql (.t 28) (.k (.int .i64 0)), (some (some 25, true)), 201728, 20, []⟩,
    ⟨(some 30), .pick (.t 25) (.t 29) (.k (.bool false)), none, 201984, 21, []⟩,
    ⟨(some 31), .mv (.t 30), none, 202240, 22, []⟩,
    ⟨(some 32), .faddr 10 (.t 3), (some (some 31, true)), 202496, 23, []⟩,
    ⟨(some 33), .load 1 false (.t 32), (some (some 31, true)), 202752, 24, []⟩,
    ⟨(some 34), .len false (.t 33), (some (some 31, true)), 203008, 25, []⟩,
    ⟨(some 35), .bin .eql (.t 34) (.k (.int .i64 0)), (some (some 31, true)), 203264, 26, []⟩,
    ⟨(some 36), .pick (.t 31) (.t 35) (.k (.bool false)), none, 203520, 27, []⟩,
    ⟨(some 37), .mv (.t 36), none, 203776, 28, []⟩,
    ⟨(some 38), .faddr 11 (.t 3), (some (some 37, true)), 204032, 29, []⟩,
    ⟨(some 39), .load 1 false (.t 38), (some (some 37, true)), 204288, 30, []⟩,
    ⟨(some 40), .not (.t 39), (some (some 37, true)), 204544, 31, []⟩,
    ⟨(some 41), .pick (.t 37) (.t 40) (.k (.bool false)), none, 204800, 32, []⟩,
    ⟨(some 2), .mv (.t 41), none, 205056, 33, []⟩])
  (.ret))
  (.skip)))
 (.seq (.seq (.reg [⟨(some 42), .faddr 0 (.t 3), none, 262144, 0, []⟩,
   ⟨(some 43), .load 1 false (.t 42), none, 262400, 1, []⟩,
   ⟨(some 44), .call 35 [(.t 43)] true, none, 262656, 2, []⟩,
   ⟨(some 45), .not (.t 44), none, 262912, 3, []⟩,
   ⟨(some 46), .mv (.t 45), none, 263168, 4, []⟩,
   ⟨(some 47), .faddr 1 (.t 3), (some (some 46, false)), 263424, 5, []⟩,
   ⟨(some 48), .load 2 true (.t 47), (some (some 46, false)), 263680, 6, []⟩,
   ⟨(some 49), .call 69 [(.t 48)] true, (some (some 46, false)), 263936, 7, []⟩,
   ⟨(some 50), .not (.t 49), (some (some 46, false)), 264192, 8, []⟩,
   ⟨(some 51), .pick (.t 46) (.k (.bool true)) (.t 50), none, 264448, 9, []⟩,
   ⟨(some 52), .mv (.t 51), none, 264704, 10, []⟩,
   ⟨(some 53), .faddr 1 (.t 3), (some (some 52, false)), 264960, 11, []⟩,
   ⟨(some 54), .faddr 1 (.t 53), (some (some 52, false)), 265216, 12, []⟩,
   ⟨(some 55), .load 1 false (.t 54), (some (some 52, false)), 265472, 13, []⟩,
   ⟨(some 56), .faddr 0 (.t 1), (some (some 52, false)), 265728, 14, []⟩,
   ⟨(some 57), .load 1 false (.t 56), (some (some 52, false)), 265984, 15, []⟩,
   ⟨(some 58), .bin .neq (.t 55) (.t 57), (some (some 52, false)), 266240, 16, []⟩,
   ⟨(some 59), .pick (.t 52) (.k (.bool true)) (.t 58), none, 266496, 17, []⟩,
   ⟨(some 60), .mv (.t 59), none, 266752, 18, []⟩,
   ⟨(some 61), .faddr 3 (.t 3), (some (some 60, false)), 267008, 19, []⟩,
   ⟨(some 62), .load 4 true (.t 61), (some (some 60, false)), 267264, 20, []⟩,
   ⟨(some 63), .call 62 [(.t 62)] true, (some (some 60, false)), 267520, 21, []⟩,
   ⟨(some 64), .not (.t 63), (some (some 60, false)), 267776, 22, []⟩,
   ⟨(some 65), .pick (.t 60) (.k (.bool true)) (.t 64), none, 268032, 23, []⟩,
   ⟨(some 66), .mv (.t 65), none, 268288, 24, []⟩,
   ⟨(some 67), .faddr 3 (.t 3), (some (some 66, false)), 268544, 25, []⟩,
   ⟨(some 68), .faddr 0 (.t 67), (some (some 66, false)), 268800, 26, []⟩,
   ⟨(some 69), .load 1 false (.t 68), (some (some 66, false)), 269056, 27, []⟩,
   ⟨(some 70), .faddr 0 (.t 3), (some (some 66, false)), 269312, 28, []⟩,
   ⟨(some 71), .load 1 false (.t 70), (some (some 66, false)), 269568, 29, []⟩,
   ⟨(some 72), .bin .neq (.t 69) (.t 71), (some (some 66, false)), 269824, 30, []⟩,
   ⟨(some 73), .pick (.t 66) (.k (.bool true)) (.t 72), none, 270080, 31, []⟩,
   ⟨(some 74), .mv (.t 73), none, 270336, 32, []⟩,
   ⟨(some 75), .faddr 7 (.t 3), (some (some 74, false)), 270592, 33, []⟩,
   ⟨(some 76), .load 2 true (.t 75), (some (some 74, false)), 270848, 34, []⟩,
   ⟨(some 77), .call 36 [(.t 76)] true, (some (some 74, false)), 271104, 35, []⟩,
   ⟨(some 78), .not (.t 77), (some (some 74, false)), 271360, 36, []⟩,
   ⟨(some 79), .pick (.t 74) (.k (.bool true)) (.t 78), none, 271616, 37, []⟩,
   ⟨(some 80), .mv (.t 79), none, 271872, 38, []⟩,
   ⟨(some 81), .faddr 7 (.t 3), (some (some 80, false)), 272128, 39, []⟩,
   ⟨(some 82), .load 2 true (.t 81), (some (some 80, false)), 272384, 40, []⟩,
   ⟨(some 83), .faddr 1 (.t 3), (some (some 80, false)), 272640, 41, []⟩,
   ⟨(some 84), .load 2 true (.t 83), (some (some 80, false)), 272896, 42, []⟩,
   ⟨(some 85), .call 37 [(.t 82), (.t 84)] true, (some (some 80, false)), 273152, 43, []⟩,
   ⟨(some 86), .not (.t 85), (some (some 80, false)), 273408, 44, []⟩,
   ⟨(some 87), .pick (.t 80) (.k (.bool true)) (.t 86), none, 273664, 45, []⟩])
 (.cond (.t 87)
  (.seq (.reg [⟨(some 2), .mv (.k (.bool false)), none, 327680, 0, []⟩])
  (.ret))
  (.skip)))
 (.seq (.seq (.reg [⟨(some 88), .faddr 9 (.t 3), none, 393216, 0, []⟩,
   ⟨(some 89), .load 1 false (.t 88), none, 393472, 1, []⟩,
   ⟨(some 90), .faddr 1 (.t 1), none, 393728, 2, []⟩,
   ⟨(some 91), .load 1 false (.t 90), none, 393984, 3, []⟩,
   ⟨(some 92), .bin .sub (.t 91) (.k (.int .i64 1)), none, 394240, 4, []⟩,
   ⟨(some 93), .call 70 [(.t 89), (.k (.int .i64 0)), (.t 92)] true, none, 394496, 5, []⟩,
   ⟨(some 94), .not (.t 93), none, 394752, 6, []⟩,
   ⟨(some 95), .mv (.t 94), none, 395008, 7, []⟩,
   ⟨(some 96), .faddr 10 (.t 3), (some (some 95, false)), 395264, 8, []⟩,
   ⟨(some 97), .load 1 false (.t 96), (some (some 95, false)), 395520, 9, []⟩,
   ⟨(some 98), .faddr 1 (.t 1), (some (some 95, false)), 395776, 10, []⟩,
   ⟨(some 99), .load 1 false (.t 98), (some (some 95, false)), 396032, 11, []⟩,
   ⟨(some 100), .bin .sub (.t 99) (.k (.int .i64 1)), (some (some 95, false)), 396288, 12, []⟩,
   ⟨(some 101), .call 70 [(.t 97), (.k (.int .i64 0)), (.t 100)] true, (some (some 95, false)), 396544, 13, []⟩,
   ⟨(some 102), .not (.t 101), (some (some 95, false)), 396800, 14, []⟩,
   ⟨(some 103), .pick (.t 95) (.k (.bool true)) (.t 102), none, 397056, 15, []⟩,
   ⟨(some 104), .mv (.t 103), none, 397312, 16, []⟩,
   ⟨(some 105), .faddr 9 (.t 3), (some (some 104, false)), 397568, 17, []⟩,
   ⟨(some 106), .load 1 false (.t 105), (some (some 104, false)), 397824, 18, []⟩,
   ⟨(some 107), .faddr 1 (.t 1), (some (some 104, false)), 398080, 19, []⟩,
   ⟨(some 108), .load 1 false (.t 107), (some (some 104, false)), 398336, 20, []⟩,
   ⟨(some 109), .call 71 [(.t 106), (.t 108)] true, (some (some 104, false)), 398592, 21, []⟩,
   ⟨(some 110), .not (.t 109), (some (some 104, false)), 398848, 22, []⟩,
   ⟨(some 111), .mv (.t 110), (some (some 104, false)), 399104, 23, []⟩,
   ⟨(some 112), .faddr 10 (.t 3), (some (some 111, true)), 399360, 24, []⟩,
   ⟨(some 113), .load 1 false (.t 112), (some (some 111, true)), 399616, 25, []⟩,
   ⟨(some 114), .len false (.t 113), (some (some 111, true)), 399872, 26, []⟩,
   ⟨(some 115), .bin .gtr (.t 114) (.k (.int .i64 0)), (some (some 111, true)), 400128, 27, []⟩,
   ⟨(some 116), .pick (.t 111) (.t 115) (.k (.bool false)), (some (some 104, false)), 400384, 28, []⟩,
   ⟨(some 117), .pick (.t 104) (.k (.bool true)) (.t 116), none, 400640, 29, []⟩])
 (.cond (.t 117)
  (.seq (.reg [⟨(some 2), .mv (.k (.bool false)), none, 458752, 0, []⟩])
  (.ret))
  (.skip)))
 (.seq (.reg [⟨(some 118), .faddr 11 (.t 3), none, 524288, 0, []⟩,
   ⟨(some 119), .load 1 false (.t 118), none, 524544, 1, []⟩,
   ⟨(some 120), .faddr 10 (.t 3), none, 524800, 2, []⟩,
   ⟨(some 121), .load 1 false (.t 120), none, 525056, 3, []⟩,
   ⟨(some 122), .faddr 1 (.t 1), none, 525312, 4, []⟩,
   ⟨(some 123), .load 1 false (.t 122), none, 525568, 5, []⟩,
   ⟨(some 124), .call 71 [(.t 121), (.t 123)] true, none, 525824, 6, []⟩,
   ⟨(some 125), .eqv false false [.b] (.t 119) (.t 124), none, 526080, 7, []⟩,
   ⟨(some 2), .mv (.t 125), none, 526336, 8, []⟩])
 (.ret))))))⟩
/-- loop.example/g00849/impl.IncOk -/
def F40 : F := ⟨1, 38, [.t 2],
 .seq (.reg [⟨(some 1), .box (.t 0), none, 0, 0, []⟩,
   ⟨(some 2), .mv (.k (.bool false)), none, 256, 1, []⟩])
 (.seq (.seq (.reg [⟨(some 3), .faddr 0 (.t 1), none, 65536, 0, []⟩,
   ⟨(some 4), .load 1 false (.t 3), none, 65792, 1, []⟩,
   ⟨(some 5), .call 41 [(.t 4), (.k (.int .i64 2)), (.k (.int .i64 60))] true, none, 66048, 2, []⟩,
   ⟨(some 6), .not (.t 5), none, 66304, 3, []⟩,
   ⟨(some 7), .mv (.t 6), none, 66560, 4, []⟩,
   ⟨(some 8), .faddr 1 (.t 1), (some (some 7, false)), 66816, 5, []⟩,
   ⟨(some 9), .load 1 false (.t 8), (some (some 7, false)), 67072, 6, []⟩,
   ⟨(some 10), .call 41 [(.t 9), (.k (.int .i64 1)), (.k (.int .i64 6))] true, (some (some 7, false)), 67328, 7, []⟩,
   ⟨(some 11), .not (.t 10), (some (some 7, false)), 67584, 8, []⟩,
   ⟨(some 12), .pick (.t 7) (.k (.bool true)) (.t 11), none, 67840, 9, []⟩,
   ⟨(some 13), .mv (.t 12), none, 68096, 10, []⟩,
   ⟨(some 14), .faddr 2 (.t 1), (some (some 13, false)), 68352, 11, []⟩,
   ⟨(some 15), .load 1 false (.t 14), (some (some 13, false)), 68608, 12, []⟩,
   ⟨(some 16), .call 72 [(.t 15)] true, (some (some 13, false)), 68864, 13, []⟩,
   ⟨(some 17), .not (.t 16), (some (some 13, false)), 69120, 14, []⟩,
   ⟨(some 18), .pick (.t 13) (.k (.bool true)) (.t 17), none, 69376, 15, []⟩,
   ⟨(some 19), .mv (.t 18), none, 69632, 16, []⟩,
   ⟨(some 20), .faddr 1 (.t 1), (some (some 19, false)), 69888, 17, []⟩,
   ⟨(some 21), .load 1 false (.t 20), (some (some 19, false)), 70144, 18, []⟩,
   ⟨(some 22), .bin .eql (.t 21) (.k (.int .i64 6)), (some (some 19, false)), 70400, 19, []⟩,
   ⟨(some 23), .mv (.t 22), (some (some 19, false)), 70656, 20, []⟩,
   ⟨(some 24), .faddr 2 (.t 1), (some (some 23, true)), 70912, 21, []⟩,
   ⟨(some 25), .load 1 false (.t 24), (some (some 23, true)), 71168, 22, []⟩,
   ⟨(some 26), .bin .neq (.t 25) (.k (.int .i64 0)), (some (some 23, true)), 71424, 23, []⟩,
   ⟨(some 27), .pick (.t 23) (.t 26) (.k (.bool false)), (some (some 19, false)), 71680, 24, []⟩,
   ⟨(some 28), .pick (.t 19) (.k (.bool true)) (.t 27), none, 71936, 25, []⟩])
 (.cond (.t 28)
  (.seq (.reg [⟨(some 2), .mv (.k (.bool false)), none, 131072, 0, []⟩])
  (.ret))
  (.skip)))
 (.seq (.seq (.reg [⟨(some 29), .faddr 1 (.t 1), none, 196608, 0, []⟩,
   ⟨(some 30), .load 1 false (.t 29), none, 196864, 1, []⟩,
   ⟨(some 31), .bin .eql (.t 30) (.k (.int .i64 5)), none, 197120, 2, []⟩])
 (.cond (.t 31)
  (.seq (.reg [⟨(some 32), .faddr 3 (.t 1), none, 262144, 0, []⟩,
    ⟨(some 33), .load 1 false (.t 32), none, 262400, 1, []⟩,
    ⟨(some 34), .call 41 [(.t 33), (.k (.int .i64 0)), (.k (.int .i64 8))] true, none, 262656, 2, []⟩,
    ⟨(some 2), .mv (.t 34), none, 262912, 3, []⟩])
  (.ret))
  (.skip)))
 (.seq (.reg [⟨(some 35), .faddr 3 (.t 1), none, 327680, 0, []⟩,
   ⟨(some 36), .load 1 false (.t 35), none, 327936, 1, []⟩,
   ⟨(some 37), .bin .eql (.t 36) (.k (.int .i64 0)), none, 328192, 2, []⟩,
   ⟨(some 2), .mv (.t 37), none, 328448, 3, []⟩])
 (.ret))))⟩
/-- loop.example/g00849/impl.between -/
def F41 : F := ⟨3, 15, [.t 6],
 .seq (.reg [⟨(some 6), .mv (.k (.bool false)), none, 0, 0, []⟩])
 (.seq (.reg [⟨(some 7), .mv (.t 0), none, 65536, 0, []⟩,
   ⟨(some 8), .mv (.t 1), none, 65792, 1, []⟩,
   ⟨(some 9), .bin .geq (.t 7) (.t 8), none, 66048, 2, []⟩,
   ⟨(some 10), .mv (.t 9), none, 66304, 3, []⟩,
   ⟨(some 11), .mv (.t 0), (some (some 10, true)), 66560, 4, []⟩,
   ⟨(some 12), .mv (.t 2), (some (some 10, true)), 66816, 5, []⟩,
   ⟨(some 13), .bin .leq (.t 11) (.t 12), (some (some 10, true)), 67072, 6, []⟩,
   ⟨(some 14), .pick (.t 10) (.t 13) (.k (.bool false)), none, 67328, 7, []⟩,
   ⟨(some 6), .mv (.t 14), none, 67584, 8, []⟩])
 (.ret))⟩
/-- loop.example/g00849/impl.lessBallot -/
def F42 : F := ⟨2, 9, [.t 4],
 .seq (.reg [⟨(some 2), .box (.t 0), none, 0, 0, []⟩,
   ⟨(some 3), .box (.t 1), none, 256, 1, []⟩,
   ⟨(some 4), .mv (.k (.bool false)), none, 512, 2, []⟩])
 (.seq (.reg [⟨(some 5), .load 2 true (.t 2), none, 65536, 0, []⟩,
   ⟨(some 6), .load 2 true (.t 3), none, 65792, 1, []⟩,
   ⟨(some 7), .call 73 [(.t 5), (.t 6)] true, none, 66048, 2, []⟩,
   ⟨(some 8), .bin .lss (.t 7) (.k (.int .i64 0)), none, 66304, 3, []⟩,
   ⟨(some 4), .mv (.t 8), none, 66560, 4, []⟩])
 (.ret))⟩
/-- (loop.example/g00849/impl.Mon).clone -/
def F43 : F := ⟨1, 20, [.cell 2 15 true],
 .seq (.reg [⟨(some 1), .box (.t 0), none, 0, 0, []⟩,
   ⟨(some 2), .alloc [(.int .i64 0), (.int .i64 0), (.nil true 9), (.int .i64 0), (.int .i64 0), (.int .i64 0), (.int .i64 0), (.int .i64 0), (.int .i64 0), (.int .i64 0), (.int .i64 0), (.int .i64 0), (.nil true 1), (.nil true 1), (.bool false)], none, 256, 1, []⟩])
 (.seq (.reg [⟨(some 3), .faddr 2 (.t 1), none, 65536, 0, []⟩,
   ⟨(some 4), .load 1 false (.t 3), none, 65792, 1, []⟩,
   ⟨(some 5), .call 74 [(.t 4)] false, none, 66048, 2, []⟩,
   ⟨(some 6), .faddr 2 (.t 1), none, 66304, 3, []⟩,
   ⟨none, .store 1 (.t 6) (.t 5), none, 66560, 4, []⟩])
 (.seq (.reg [⟨(some 7), .faddr 3 (.t 1), none, 131072, 0, []⟩,
   ⟨(some 8), .faddr 9 (.t 7), none, 131328, 1, []⟩,
   ⟨(some 9), .load 1 false (.t 8), none, 131584, 2, []⟩,
   ⟨(some 10), .call 75 [(.t 9)] false, none, 131840, 3, []⟩,
   ⟨(some 11), .faddr 3 (.t 1), none, 132096, 4, []⟩,
   ⟨(some 12), .faddr 9 (.t 11), none, 132352, 5, []⟩,
   ⟨none, .store 1 (.t 12) (.t 10), none, 132608, 6, []⟩])
 (.seq (.reg [⟨(some 13), .faddr 3 (.t 1), none, 196608, 0, []⟩,
   ⟨(some 14), .faddr 10 (.t 13), none, 196864, 1, []⟩,
   ⟨(some 15), .load 1 false (.t 14), none, 197120, 2, []⟩,
   ⟨(some 16), .call 75 [(.t 15)] false, none, 197376, 3, []⟩,
   ⟨(some 17), .faddr 3 (.t 1), none, 197632, 4, []⟩,
   ⟨(some 18), .faddr 10 (.t 17), none, 197888, 5, []⟩,
   ⟨none, .store 1 (.t 18) (.t 16), none, 198144, 6, []⟩])
 (.seq (.reg [⟨(some 19), .load 15 true (.t 1), none, 262144, 0, []⟩,
   ⟨none, .store 15 (.t 2) (.t 19), none, 262400, 1, []⟩])
 (.ret)))))⟩
/-- loop.example/g00849/laws.szSlotS -/
def F51 : F := ⟨2, 12, [.t 4],
 .seq (.reg [⟨(some 4), .mv (.k (.int .i64 0)), none, 0, 0, []⟩])
 (.seq (.reg [⟨(some 5), .mv (.t 1), none, 65536, 0, []⟩,
   ⟨(some 6), .mv (.t 0), none, 65792, 1, []⟩,
   ⟨(some 7), .len false (.t 6), none, 66048, 2, []⟩,
   ⟨(some 8), .bin .sub (.t 5) (.t 7), none, 66304, 3, []⟩,
   ⟨(some 1), .mv (.t 8), none, 66560, 4, []⟩])
 (.seq (.seq (.reg [⟨(some 9), .mv (.t 1), none, 131072, 0, []⟩,
   ⟨(some 10), .bin .lss (.t 9) (.k (.int .i64 0)), none, 131328, 1, []⟩])
 (.cond (.t 10)
  (.seq (.reg [⟨(some 4), .mv (.k (.int .i64 (-1))), none, 196608, 0, []⟩])
  (.ret))
  (.skip)))
 (.seq (.reg [⟨(some 11), .mv (.t 1), none, 262144, 0, []⟩,
   ⟨(some 4), .mv (.t 11), none, 262400, 1, []⟩])
 (.ret))))⟩
/-- loop.example/g00849/laws.szTry -/
def F52 : F := ⟨2, 18, [.t 4],
 .seq (.reg [⟨(some 2), .box (.t 0), none, 0, 0, []⟩,
   ⟨(some 4), .mv (.k (.int .i64 0)), none, 256, 1, []⟩])
 (.seq (.reg [⟨(some 5), .faddr 9 (.t 2), none, 65536, 0, []⟩,
   ⟨(some 6), .load 1 false (.t 5), none, 65792, 1, []⟩,
   ⟨(some 7), .mv (.t 1), none, 66048, 2, []⟩,
   ⟨(some 8), .call 87 [(.t 6), (.t 7)] true, none, 66304, 3, []⟩,
   ⟨(some 1), .mv (.t 8), none, 66560, 4, []⟩])
 (.seq (.seq (.reg [⟨(some 9), .mv (.t 1), none, 131072, 0, []⟩,
   ⟨(some 10), .bin .lss (.t 9) (.k (.int .i64 0)), none, 131328, 1, []⟩])
 (.cond (.t 10)
  (.seq (.reg [⟨(some 4), .mv (.k (.int .i64 (-1))), none, 196608, 0, []⟩])
  (.ret))
  (.skip)))
 (.seq (.reg [⟨(some 11), .faddr 10 (.t 2), none, 262144, 0, []⟩,
   ⟨(some 12), .load 1 false (.t 11), none, 262400, 1, []⟩,
   ⟨(some 13), .mv (.t 1), none, 262656, 2, []⟩,
   ⟨(some 14), .call 87 [(.t 12), (.t 13)] true, none, 262912, 3, []⟩,
   ⟨(some 1), .mv (.t 14), none, 263168, 4, []⟩])
 (.seq (.seq (.reg [⟨(some 15), .mv (.t 1), none, 327680, 0, []⟩,
   ⟨(some 16), .bin .lss (.t 15) (.k (.int .i64 0)), none, 327936, 1, []⟩])
 (.cond (.t 16)
  (.seq (.reg [⟨(some 4), .mv (.k (.int .i64 (-1))), none, 393216, 0, []⟩])
  (.ret))
  (.skip)))
 (.seq (.reg [⟨(some 17), .mv (.t 1), none, 458752, 0, []⟩,
   ⟨(some 4), .mv (.t 17), none, 459008, 1, []⟩])
 (.ret))))))⟩
/-- loop.example/g00849/spec.l21Own -/
def F53 : F := ⟨1, 23, [.cell 2 15 true],
 .seq (.reg [⟨(some 1), .box (.t 0), none, 0, 0, []⟩,
   ⟨(some 2), .alloc [(.int .i64 0), (.int .i64 0), (.nil true 9), (.int .i64 0), (.int .i64 0), (.int .i64 0), (.int .i64 0), (.int .i64 0), (.int .i64 0), (.int .i64 0), (.int .i64 0), (.int .i64 0), (.nil true 1), (.nil true 1), (.bool false)], none, 256, 1, []⟩])
 (.seq (.reg [⟨(some 4), .load 15 true (.t 1), none, 65536, 0, []⟩,
   ⟨(some 3), .alloc [(.int .i64 0), (.int .i64 0), (.nil true 9), (.int .i64 0), (.int .i64 0), (.int .i64 0), (.int .i64 0), (.int .i64 0), (.int .i64 0), (.int .i64 0), (.int .i64 0), (.int .i64 0), (.nil true 1), (.nil true 1), (.bool false)], none, 65792, 1, []⟩,
   ⟨none, .store 15 (.t 3) (.t 4), none, 66048, 2, []⟩])
 (.seq (.reg [⟨(some 5), .bslice true 9 [(.int .i64 0), (.int .i64 0), (.int .i64 0), (.int .i64 0), (.int .i64 0), (.int .i64 0), (.int .i64 0), (.int .i64 0), (.int .i64 0)] 0 [], none, 131072, 0, []⟩,
   ⟨(some 6), .faddr 2 (.t 1), none, 131328, 1, []⟩,
   ⟨(some 7), .load 1 false (.t 6), none, 131584, 2, []⟩,
   ⟨(some 8), .app true 9 72 (.t 5) (.t 7), none, 131840, 3, []⟩,
   ⟨(some 9), .faddr 2 (.t 3), none, 132096, 4, []⟩,
   ⟨none, .store 1 (.t 9) (.t 8), none, 132352, 5, []⟩])
 (.seq (.reg [⟨(some 10), .faddr 3 (.t 1), none, 196608, 0, []⟩,
   ⟨(some 11), .faddr 9 (.t 10), none, 196864, 1, []⟩,
   ⟨(some 12), .load 1 false (.t 11), none, 197120, 2, []⟩,
   ⟨(some 13), .call 88 [(.t 12)] false, none, 197376, 3, []⟩,
   ⟨(some 14), .faddr 3 (.t 3), none, 197632, 4, []⟩,
   ⟨(some 15), .faddr 9 (.t 14), none, 197888, 5, []⟩,
   ⟨none, .store 1 (.t 15) (.t 13), none, 198144, 6, []⟩])
 (.seq (.reg [⟨(some 16), .faddr 3 (.t 1), none, 262144, 0, []⟩,
   ⟨(some 17), .faddr 10 (.t 16), none, 262400, 1, []⟩,
   ⟨(some 18), .load 1 false (.t 17), none, 262656, 2, []⟩,
   ⟨(some 19), .call 88 [(.t 18)] false, none, 262912, 3, []⟩,
   ⟨(some 20), .faddr 3 (.t 3), none, 263168, 4, []⟩,
   ⟨(some 21), .faddr 10 (.t 20), none, 263424, 5, []⟩,
   ⟨none, .store 1 (.t 21) (.t 19), none, 263680, 6, []⟩])
 (.seq (.reg [⟨(some 22), .load 15 true (.t 3), none, 327680, 0, []⟩,
   ⟨none, .store 15 (.t 2) (.t 22), none, 327936, 1, []⟩])
 (.ret))))))⟩
/-- loop.example/g00849/laws.toSlotS -/
def F54 : F := ⟨1, 23, [.t 2],
 .seq (.reg [⟨(some 2), .nil0 true 9, none, 0, 0, []⟩])
 (.seq (.reg [⟨(some 5), .mv (.t 0), none, 65536, 0, []⟩,
   ⟨(some 6), .len false (.t 5), none, 65792, 1, []⟩,
   ⟨(some 7), .mksl true 9 72 [(.int .i64 0), (.int .i64 0), (.int .i64 0), (.int .i64 0), (.int .i64 0), (.int .i64 0), (.int .i64 0), (.int .i64 0), (.int .i64 0)] (.t 6) (.t 6), none, 66048, 2, []⟩,
   ⟨(some 3), .mv (.t 7), none, 66304, 3, []⟩])
 (.seq (.seq (.reg [⟨(some 4), .mv (.k (.int .i64 0)), none, 131072, 0, []⟩])
 (.block 0 (.loop [0, 3, 4] [0, 66048]
  (.seq (.seq (.reg [⟨(some 8), .mv (.t 4), none, 196608, 0, []⟩,
    ⟨(some 9), .mv (.t 0), none, 196864, 1, []⟩,
    ⟨(some 10), .len false (.t 9), none, 197120, 2, []⟩,
    ⟨(some 11), .bin .lss (.t 8) (.t 10), none, 197376, 3, []⟩])
  (.cond (.t 11)
   (.skip)
   (.exit 0)))
  (.seq (.block 1 (.reg [⟨(some 14), .mv (.t 3), none, 327680, 0, []⟩,
    ⟨(some 15), .mv (.t 4), none, 327936, 1, []⟩,
    ⟨(some 16), .mv (.t 0), none, 328192, 2, []⟩,
    ⟨(some 17), .mv (.t 4), none, 328448, 3, []⟩,
    ⟨(some 18), .iaddr 9 (.t 16) (.t 17), none, 328704, 4, []⟩,
    ⟨(some 19), .load 9 true (.t 18), none, 328960, 5, []⟩,
    ⟨(some 20), .call 89 [(.t 19)] true, none, 329216, 6, []⟩,
    ⟨(some 21), .iaddr 9 (.t 14) (.t 15), none, 329472, 7, []⟩,
    ⟨none, .store 9 (.t 21) (.t 20), none, 329728, 8, []⟩]))
  (.reg [⟨(some 12), .mv (.t 4), none, 262144, 0, []⟩,
    ⟨(some 13), .bin .add (.t 12) (.k (.int .i64 1)), none, 262400, 1, []⟩,
    ⟨(some 4), .mv (.t 13), none, 262656, 2, []⟩]))))))
 (.seq (.reg [⟨(some 22), .mv (.t 3), none, 393216, 0, []⟩,
   ⟨(some 2), .mv (.t 22), none, 393472, 1, []⟩])
 (.ret))))⟩
/-- loop.example/g00849/laws.toTry -/
def F55 : F := ⟨1, 31, [.cell 2 12 true],
 .seq (.reg [⟨(some 1), .box (.t 0), none, 0, 0, []⟩,
   ⟨(some 2), .alloc [(.int .i64 0), (.int .i64 0), (.int .i64 0), (.int .i64 0), (.int .i64 0), (.int .i64 0), (.int .i64 0), (.int .i64 0), (.int .i64 0), (.nil true 1), (.nil true 1), (.bool false)], none, 256, 1, []⟩])
 (.seq (.reg [⟨(some 3), .alloc [(.int .i64 0), (.int .i64 0), (.int .i64 0), (.int .i64 0), (.int .i64 0), (.int .i64 0), (.int .i64 0), (.int .i64 0), (.int .i64 0), (.nil true 1), (.nil true 1), (.bool false)], none, 65536, 0, []⟩])
 (.seq (.reg [⟨(some 4), .faddr 0 (.t 1), none, 131072, 0, []⟩,
   ⟨(some 5), .load 1 false (.t 4), none, 131328, 1, []⟩,
   ⟨(some 6), .faddr 0 (.t 3), none, 131584, 2, []⟩,
   ⟨none, .store 1 (.t 6) (.t 5), none, 131840, 3, []⟩])
 (.seq (.reg [⟨(some 7), .faddr 1 (.t 1), none, 196608, 0, []⟩,
   ⟨(some 8), .load 2 true (.t 7), none, 196864, 1, []⟩,
   ⟨(some 9), .call 90 [(.t 8)] true, none, 197120, 2, []⟩,
   ⟨(some 10), .faddr 1 (.t 3), none, 197376, 3, []⟩,
   ⟨none, .store 2 (.t 10) (.t 9), none, 197632, 4, []⟩])
 (.seq (.reg [⟨(some 11), .faddr 3 (.t 1), none, 262144, 0, []⟩,
   ⟨(some 12), .load 4 true (.t 11), none, 262400, 1, []⟩,
   ⟨(some 13), .call 25 [(.t 12)] true, none, 262656, 2, []⟩,
   ⟨(some 14), .faddr 3 (.t 3), none, 262912, 3, []⟩,
   ⟨none, .store 4 (.t 14) (.t 13), none, 263168, 4, []⟩])
 (.seq (.reg [⟨(some 15), .faddr 7 (.t 1), none, 327680, 0, []⟩,
   ⟨(some 16), .load 2 true (.t 15), none, 327936, 1, []⟩,
   ⟨(some 17), .call 90 [(.t 16)] true, none, 328192, 2, []⟩,
   ⟨(some 18), .faddr 7 (.t 3), none, 328448, 3, []⟩,
   ⟨none, .store 2 (.t 18) (.t 17), none, 328704, 4, []⟩])
 (.seq (.reg [⟨(some 19), .faddr 9 (.t 1), none, 393216, 0, []⟩,
   ⟨(some 20), .load 1 false (.t 19), none, 393472, 1, []⟩,
   ⟨(some 21), .call 91 [(.t 20)] false, none, 393728, 2, []⟩,
   ⟨(some 22), .faddr 9 (.t 3), none, 393984, 3, []⟩,
   ⟨none, .store 1 (.t 22) (.t 21), none, 394240, 4, []⟩])
 (.seq (.reg [⟨(some 23), .faddr 10 (.t 1), none, 458752, 0, []⟩,
   ⟨(some 24), .load 1 false (.t 23), none, 459008, 1, []⟩,
   ⟨(some 25), .call 91 [(.t 24)] false, none, 459264, 2, []⟩,
   ⟨(some 26), .faddr 10 (.t 3), none, 459520, 3, []⟩,
   ⟨none, .store 1 (.t 26) (.t 25), none, 459776, 4, []⟩])
 (.seq (.reg [⟨(some 27), .faddr 11 (.t 1), none, 524288, 0, []⟩,
   ⟨(some 28), .load 1 false (.t 27), none, 524544, 1, []⟩,
   ⟨(some 29), .faddr 11 (.t 3), none, 524800, 2, []⟩,
   ⟨none, .store 1 (.t 29) (.t 28), none, 525056, 3, []⟩])
 (.seq (.reg [⟨(some 30), .load 12 true (.t 3), none, 589824, 0, []⟩,
   ⟨none, .store 12 (.t 2) (.t 30), none, 590080, 1, []⟩])
 (.ret))))))))))⟩
/-- loop.example/g00849/laws.eqSlotS -/
def F56 : F := ⟨2, 27, [.t 4],
 .seq (.reg [⟨(some 4), .mv (.k (.bool false)), none, 0, 0, []⟩])
 (.seq (.seq (.reg [⟨(some 6), .mv (.t 0), none, 65536, 0, []⟩,
   ⟨(some 7), .len false (.t 6), none, 65792, 1, []⟩,
   ⟨(some 8), .mv (.t 1), none, 66048, 2, []⟩,
   ⟨(some 9), .len false (.t 8), none, 66304, 3, []⟩,
   ⟨(some 10), .bin .neq (.t 7) (.t 9), none, 66560, 4, []⟩])
 (.cond (.t 10)
  (.seq (.reg [⟨(some 4), .mv (.k (.bool false)), none, 131072, 0, []⟩])
  (.ret))
  (.skip)))
 (.seq (.seq (.reg [⟨(some 5), .mv (.k (.int .i64 0)), none, 196608, 0, []⟩])
 (.block 0 (.loop [0, 1, 5] []
  (.seq (.seq (.reg [⟨(some 11), .mv (.t 5), none, 262144, 0, []⟩,
    ⟨(some 12), .mv (.t 0), none, 262400, 1, []⟩,
    ⟨(some 13), .len false (.t 12), none, 262656, 2, []⟩,
    ⟨(some 14), .bin .lss (.t 11) (.t 13), none, 262912, 3, []⟩])
  (.cond (.t 14)
   (.skip)
   (.exit 0)))
  (.seq (.block 1 (.seq (.reg [⟨(some 17), .mv (.t 0), none, 393216, 0, []⟩,
    ⟨(some 18), .mv (.t 5), none, 393472, 1, []⟩,
    ⟨(some 19), .iaddr 9 (.t 17) (.t 18), none, 393728, 2, []⟩,
    ⟨(some 20), .load 9 true (.t 19), none, 393984, 3, []⟩,
    ⟨(some 21), .mv (.t 1), none, 394240, 4, []⟩,
    ⟨(some 22), .mv (.t 5), none, 394496, 5, []⟩,
    ⟨(some 23), .iaddr 9 (.t 21) (.t 22), none, 394752, 6, []⟩,
    ⟨(some 24), .load 9 true (.t 23), none, 395008, 7, []⟩,
    ⟨(some 25), .call 92 [(.t 20), (.t 24)] true, none, 395264, 8, []⟩,
    ⟨(some 26), .not (.t 25), none, 395520, 9, []⟩])
  (.cond (.t 26)
   (.seq (.reg [⟨(some 4), .mv (.k (.bool false)), none, 458752, 0, []⟩])
   (.ret))
   (.skip))))
  (.reg [⟨(some 15), .mv (.t 5), none, 327680, 0, []⟩,
    ⟨(some 16), .bin .add (.t 15) (.k (.int .i64 1)), none, 327936, 1, []⟩,
    ⟨(some 5), .mv (.t 16), none, 328192, 2, []⟩]))))))
 (.seq (.reg [⟨(some 4), .mv (.k (.bool true)), none, 524288, 0, []⟩])
 (.ret))))⟩
/-- loop.example/g00849/laws.eqTry -/
def F57 : F := ⟨2, 45, [.t 4],
 .seq (.reg [⟨(some 2), .box (.t 0), none, 0, 0, []⟩,
   ⟨(some 3), .box (.t 1), none, 256, 1, []⟩,
   ⟨(some 4), .mv (.k (.bool false)), none, 512, 2, []⟩])
 (.seq (.seq (.reg [⟨(some 5), .faddr 0 (.t 2), none, 65536, 0, []⟩,
   ⟨(some 6), .load 1 false (.t 5), none, 65792, 1, []⟩,
   ⟨(some 7), .faddr 0 (.t 3), none, 66048, 2, []⟩,
   ⟨(some 8), .load 1 false (.t 7), none, 66304, 3, []⟩,
   ⟨(some 9), .bin .neq (.t 6) (.t 8), none, 66560, 4, []⟩])
 (.cond (.t 9)
  (.seq (.reg [⟨(some 4), .mv (.k (.bool false)), none, 131072, 0, []⟩])
  (.ret))
  (.skip)))
 (.seq (.seq (.reg [⟨(some 10), .faddr 1 (.t 2), none, 196608, 0, []⟩,
   ⟨(some 11), .load 2 true (.t 10), none, 196864, 1, []⟩,
   ⟨(some 12), .faddr 1 (.t 3), none, 197120, 2, []⟩,
   ⟨(some 13), .load 2 true (.t 12), none, 197376, 3, []⟩,
   ⟨(some 14), .call 93 [(.t 11), (.t 13)] true, none, 197632, 4, []⟩,
   ⟨(some 15), .not (.t 14), none, 197888, 5, []⟩])
 (.cond (.t 15)
  (.seq (.reg [⟨(some 4), .mv (.k (.bool false)), none, 262144, 0, []⟩])
  (.ret))
  (.skip)))
 (.seq (.seq (.reg [⟨(some 16), .faddr 3 (.t 2), none, 327680, 0, []⟩,
   ⟨(some 17), .load 4 true (.t 16), none, 327936, 1, []⟩,
   ⟨(some 18), .faddr 3 (.t 3), none, 328192, 2, []⟩,
   ⟨(some 19), .load 4 true (.t 18), none, 328448, 3, []⟩,
   ⟨(some 20), .call 94 [(.t 17), (.t 19)] true, none, 328704, 4, []⟩,
   ⟨(some 21), .not (.t 20), none, 328960, 5, []⟩])
 (.cond (.t 21)
  (.seq (.reg [⟨(some 4), .mv (.k (.bool false)), none, 393216, 0, []⟩])
  (.ret))
  (.skip)))
 (.seq (.seq (.reg [⟨(some 22), .faddr 7 (.t 2), none, 458752, 0, []⟩,
   ⟨(some 23), .load 2 true (.t 22), none, 459008, 1, []⟩,
   ⟨(some 24), .faddr 7 (.t 3), none, 459264, 2, []⟩,
   ⟨(some 25), .load 2 true (.t 24), none, 459520, 3, []⟩,
   ⟨(some 26), .call 93 [(.t 23), (.t 25)] true, none, 459776, 4, []⟩,
   ⟨(some 27), .not (.t 26), none, 460032, 5, []⟩])
 (.cond (.t 27)
  (.seq (.reg [⟨(some 4), .mv (.k (.bool false)), none, 524288, 0, []⟩])
  (.ret))
  (.skip)))
 (.seq (.seq (.reg [⟨(some 28), .faddr 9 (.t 2), none, 589824, 0, []⟩,
   ⟨(some 29), .load 1 false (.t 28), none, 590080, 1, []⟩,
   ⟨(some 30), .faddr 9 (.t 3), none, 590336, 2, []⟩,
   ⟨(some 31), .load 1 false (.t 30), none, 590592, 3, []⟩,
   ⟨(some 32), .call 95 [(.t 29), (.t 31)] true, none, 590848, 4, []⟩,
   ⟨(some 33), .not (.t 32), none, 591104, 5, []⟩])
 (.cond (.t 33)
  (.seq (.reg [⟨(some 4), .mv (.k (.bool false)), none, 655360, 0, []⟩])
  (.ret))
  (.skip)))
 (.seq (.seq (.reg [⟨(some 34), .faddr 10 (.t 2), none, 720896, 0, []⟩,
   ⟨(some 35), .load 1 false (.t 34), none, 721152, 1, []⟩,
   ⟨(some 36), .faddr 10 (.t 3), none, 721408, 2, []⟩,
   ⟨(some 37), .load 1 false (.t 36), none, 721664, 3, []⟩,
   ⟨(some 38), .call 95 [(.t 35), (.t 37)] true, none, 721920, 4, []⟩,
   ⟨(some 39), .not (.t 38), none, 722176, 5, []⟩])
 (.cond (.t 39)
  (.seq (.reg [⟨(some 4), .mv (.k (.bool false)), none, 786432, 0, []⟩])
  (.ret))
  (.skip)))
 (.seq (.seq (.reg [⟨(some 40), .faddr 11 (.t 2), none, 851968, 0, []⟩,
   ⟨(some 41), .load 1 false (.t 40), none, 852224, 1, []⟩,
   ⟨(some 42), .faddr 11 (.t 3), none, 852480, 2, []⟩,
   ⟨(some 43), .load 1 false (.t 42), none, 852736, 3, []⟩,
   ⟨(some 44), .eqv true false [.b] (.t 41) (.t 43), none, 852992, 4, []⟩])
 (.cond (.t 44)
  (.seq (.reg [⟨(some 4), .mv (.k (.bool false)), none, 917504, 0, []⟩])
  (.ret))
  (.skip)))
 (.seq (.reg [⟨(some 4), .mv (.k (.bool true)), none, 983040, 0, []⟩])
 (.ret)))))))))⟩
/-- loop.example/g00849/laws.markSlotS -/
def F58 : F := ⟨2, 84, [.t 4],
 .seq (.reg [⟨(some 4), .mv (.k (.int .i64 0)), none, 0, 0, []⟩])
 (.seq (.seq (.reg [⟨(some 5), .mv (.k (.int .i64 0)), none, 65536, 0, []⟩])
 (.block 0 (.loop [0, 1, 5] []
  (.seq (.seq (.reg [⟨(some 6), .mv (.t 5), none, 131072, 0, []⟩,
    ⟨(some 7), .mv (.t 0), none, 131328, 1, []⟩,
    ⟨(some 8), .len false (.t 7), none, 131584, 2, []⟩,
    ⟨(some 9), .bin .lss (.t 6) (.t 8), none, 131840, 3, []⟩])
  (.cond (.t 9)
   (.skip)
   (.exit 0)))
  (.seq (.block 1 (.seq (.reg [⟨(some 12), .mv (.t 0), none, 262144, 0, []⟩,
    ⟨(some 13), .mv (.t 5), none, 262400, 1, []⟩,
    ⟨(some 14), .mv (.t 1), none, 262656, 2, []⟩,
    ⟨(some 15), .iaddr 9 (.t 12) (.t 13), none, 262912, 3, []⟩,
    ⟨(some 16), .faddr 0 (.t 15), none, 263168, 4, []⟩,
    ⟨none, .store 1 (.t 16) (.t 14), none, 263424, 5, []⟩])
  (.seq (.reg [⟨(some 17), .mv (.t 1), none, 327680, 0, []⟩,
    ⟨(some 18), .bin .add (.t 17) (.k (.int .i64 1)), none, 327936, 1, []⟩,
    ⟨(some 1), .mv (.t 18), none, 328192, 2, []⟩])
  (.seq (.reg [⟨(some 19), .mv (.t 0), none, 393216, 0, []⟩,
    ⟨(some 20), .mv (.t 5), none, 393472, 1, []⟩,
    ⟨(some 21), .mv (.t 1), none, 393728, 2, []⟩,
    ⟨(some 22), .iaddr 9 (.t 19) (.t 20), none, 393984, 3, []⟩,
    ⟨(some 23), .faddr 1 (.t 22), none, 394240, 4, []⟩,
    ⟨(some 24), .faddr 0 (.t 23), none, 394496, 5, []⟩,
    ⟨none, .store 1 (.t 24) (.t 21), none, 394752, 6, []⟩])
  (.seq (.reg [⟨(some 25), .mv (.t 1), none, 458752, 0, []⟩,
    ⟨(some 26), .bin .add (.t 25) (.k (.int .i64 1)), none, 459008, 1, []⟩,
    ⟨(some 1), .mv (.t 26), none, 459264, 2, []⟩])
  (.seq (.reg [⟨(some 27), .mv (.t 0), none, 524288, 0, []⟩,
    ⟨(some 28), .mv (.t 5), none, 524544, 1, []⟩,
    ⟨(some 29), .mv (.t 1), none, 524800, 2, []⟩,
    ⟨(some 30), .iaddr 9 (.t 27) (.t 28), none, 525056, 3, []⟩,
    ⟨(some 31), .faddr 1 (.t 30), none, 525312, 4, []⟩,
    ⟨(some 32), .faddr 1 (.t 31), none, 525568, 5, []⟩,
    ⟨none, .store 1 (.t 32) (.t 29), none, 525824, 6, []⟩])
  (.seq (.reg [⟨(some 33), .mv (.t 1), none, 589824, 0, []⟩,
    ⟨(some 34), .bin .add (.t 33) (.k (.int .i64 1)), none, 590080, 1, []⟩,
    ⟨(some 1), .mv (.t 34), none, 590336, 2, []⟩])
  (.seq (.reg [⟨(some 35), .mv (.t 0), none, 655360, 0, []⟩,
    ⟨(some 36), .mv (.t 5), none, 655616, 1, []⟩,
    ⟨(some 37), .mv (.t 1), none, 655872, 2, []⟩,
    ⟨(some 38), .iaddr 9 (.t 35) (.t 36), none, 656128, 3, []⟩,
    ⟨(some 39), .faddr 3 (.t 38), none, 656384, 4, []⟩,
    ⟨(some 40), .faddr 0 (.t 39), none, 656640, 5, []⟩,
    ⟨none, .store 1 (.t 40) (.t 37), none, 656896, 6, []⟩])
  (.seq (.reg [⟨(some 41), .mv (.t 1), none, 720896, 0, []⟩,
    ⟨(some 42), .bin .add (.t 41) (.k (.int .i64 1)), none, 721152, 1, []⟩,
    ⟨(some 1), .mv (.t 42), none, 721408, 2, []⟩])
  (.seq (.reg [⟨(some 43), .mv (.t 0), none, 786432, 0, []⟩,
    ⟨(some 44), .mv (.t 5), none, 786688, 1, []⟩,
    ⟨(some 45), .mv (.t 1), none, 786944, 2, []⟩,
    ⟨(some 46), .iaddr 9 (.t 43) (.t 44), none, 787200, 3, []⟩,
    ⟨(some 47), .faddr 3 (.t 46), none, 787456, 4, []⟩,
    ⟨(some 48), .faddr 1 (.t 47), none, 787712, 5, []⟩,
    ⟨none, .store 1 (.t 48) (.t 45), none, 787968, 6, []⟩])
  (.seq (.reg [⟨(some 49), .mv (.t 1), none, 851968, 0, []⟩,
    ⟨(some 50), .bin .add (.t 49) (.k (.int .i64 1)), none, 852224, 1, []⟩,
    ⟨(some 1), .mv (.t 50), none, 852480, 2, []⟩])
  (.seq (.reg [⟨(some 51), .mv (.t 0), none, 917504, 0, []⟩,
    ⟨(some 52), .mv (.t 5), none, 917760, 1, []⟩,
    ⟨(some 53), .mv (.t 1), none, 918016, 2, []⟩,
    ⟨(some 54), .iaddr 9 (.t 51) (.t 52), none, 918272, 3, []⟩,
    ⟨(some 55), .faddr 5 (.t 54), none, 918528, 4, []⟩,
    ⟨(some 56), .faddr 0 (.t 55), none, 918784, 5, []⟩,
    ⟨none, .store 1 (.t 56) (.t 53), none, 919040, 6, []⟩])
  (.seq (.reg [⟨(some 57), .mv (.t 1), none, 983040, 0, []⟩,
    ⟨(some 58), .bin .add (.t 57) (.k (.int .i64 1)), none, 983296, 1, []⟩,
    ⟨(some 1), .mv (.t 58), none, 983552, 2, []⟩])
  (.seq (.reg [⟨(some 59), .mv (.t 0), none, 1048576, 0, []⟩,
    ⟨(some 60), .mv (.t 5), none, 1048832, 1, []⟩,
    ⟨(some 61), .mv (.t 1), none, 1049088, 2, []⟩,
    ⟨(some 62), .iaddr 9 (.t 59) (.t 60), none, 1049344, 3, []⟩,
    ⟨(some 63), .faddr 5 (.t 62), none, 1049600, 4, []⟩,
    ⟨(some 64), .faddr 1 (.t 63), none, 1049856, 5, []⟩,
    ⟨none, .store 1 (.t 64) (.t 61), none, 1050112, 6, []⟩])
  (.seq (.reg [⟨(some 65), .mv (.t 1), none, 1114112, 0, []⟩,
    ⟨(some 66), .bin .add (.t 65) (.k (.int .i64 1)), none, 1114368, 1, []⟩,
    ⟨(some 1), .mv (.t 66), none, 1114624, 2, []⟩])
  (.seq (.reg [⟨(some 67), .mv (.t 0), none, 1179648, 0, []⟩,
    ⟨(some 68), .mv (.t 5), none, 1179904, 1, []⟩,
    ⟨(some 69), .mv (.t 1), none, 1180160, 2, []⟩,
    ⟨(some 70), .iaddr 9 (.t 67) (.t 68), none, 1180416, 3, []⟩,
    ⟨(some 71), .faddr 5 (.t 70), none, 1180672, 4, []⟩,
    ⟨(some 72), .faddr 2 (.t 71), none, 1180928, 5, []⟩,
    ⟨none, .store 1 (.t 72) (.t 69), none, 1181184, 6, []⟩])
  (.seq (.reg [⟨(some 73), .mv (.t 1), none, 1245184, 0, []⟩,
    ⟨(some 74), .bin .add (.t 73) (.k (.int .i64 1)), none, 1245440, 1, []⟩,
    ⟨(some 1), .mv (.t 74), none, 1245696, 2, []⟩])
  (.seq (.reg [⟨(some 75), .mv (.t 0), none, 1310720, 0, []⟩,
    ⟨(some 76), .mv (.t 5), none, 1310976, 1, []⟩,
    ⟨(some 77), .mv (.t 1), none, 1311232, 2, []⟩,
    ⟨(some 78), .iaddr 9 (.t 75) (.t 76), none, 1311488, 3, []⟩,
    ⟨(some 79), .faddr 5 (.t 78), none, 1311744, 4, []⟩,
    ⟨(some 80), .faddr 3 (.t 79), none, 1312000, 5, []⟩,
    ⟨none, .store 1 (.t 80) (.t 77), none, 1312256, 6, []⟩])
  (.reg [⟨(some 81), .mv (.t 1), none, 1376256, 0, []⟩,
    ⟨(some 82), .bin .add (.t 81) (.k (.int .i64 1)), none, 1376512, 1, []⟩,
    ⟨(some 1), .mv (.t 82), none, 1376768, 2, []⟩])))))))))))))))))))
  (.reg [⟨(some 10), .mv (.t 5), none, 196608, 0, []⟩,
    ⟨(some 11), .bin .add (.t 10) (.k (.int .i64 1)), none, 196864, 1, []⟩,
    ⟨(some 5), .mv (.t 11), none, 197120, 2, []⟩]))))))
 (.seq (.reg [⟨(some 83), .mv (.t 1), none, 1441792, 0, []⟩,
   ⟨(some 4), .mv (.t 83), none, 1442048, 1, []⟩])
 (.ret)))⟩
/-- loop.example/g00849/laws.markTry -/
def F59 : F := ⟨2, 14, [.t 4],
 .seq (.reg [⟨(some 2), .box (.t 0), none, 0, 0, []⟩,
   ⟨(some 4), .mv (.k (.int .i64 0)), none, 256, 1, []⟩])
 (.seq (.reg [⟨(some 5), .faddr 9 (.t 2), none, 65536, 0, []⟩,
   ⟨(some 6), .load 1 false (.t 5), none, 65792, 1, []⟩,
   ⟨(some 7), .mv (.t 1), none, 66048, 2, []⟩,
   ⟨(some 8), .call 96 [(.t 6), (.t 7)] true, none, 66304, 3, []⟩,
   ⟨(some 1), .mv (.t 8), none, 66560, 4, []⟩])
 (.seq (.reg [⟨(some 9), .faddr 10 (.t 2), none, 131072, 0, []⟩,
   ⟨(some 10), .load 1 false (.t 9), none, 131328, 1, []⟩,
   ⟨(some 11), .mv (.t 1), none, 131584, 2, []⟩,
   ⟨(some 12), .call 96 [(.t 10), (.t 11)] true, none, 131840, 3, []⟩,
   ⟨(some 1), .mv (.t 12), none, 132096, 4, []⟩])
 (.seq (.reg [⟨(some 13), .mv (.t 1), none, 196608, 0, []⟩,
   ⟨(some 4), .mv (.t 13), none, 196864, 1, []⟩])
 (.ret))))⟩
/-- loop.example/g00849/laws.heldSlotS -/
def F60 : F := ⟨2, 102, [.t 4],
 .seq (.reg [⟨(some 4), .mv (.k (.int .i64 0)), none, 0, 0, []⟩])
 (.seq (.seq (.reg [⟨(some 5), .mv (.k (.int .i64 0)), none, 65536, 0, []⟩])
 (.block 0 (.loop [0, 1, 5] []
  (.seq (.seq (.reg [⟨(some 6), .mv (.t 5), none, 131072, 0, []⟩,
    ⟨(some 7), .mv (.t 0), none, 131328, 1, []⟩,
    ⟨(some 8), .len false (.t 7), none, 131584, 2, []⟩,
    ⟨(some 9), .bin .lss (.t 6) (.t 8), none, 131840, 3, []⟩])
  (.cond (.t 9)
   (.skip)
   (.exit 0)))
  (.seq (.block 1 (.seq (.seq (.reg [⟨(some 12), .mv (.t 0), none, 262144, 0, []⟩,
    ⟨(some 13), .mv (.t 5), none, 262400, 1, []⟩,
    ⟨(some 14), .iaddr 9 (.t 12) (.t 13), none, 262656, 2, []⟩,
    ⟨(some 15), .faddr 0 (.t 14), none, 262912, 3, []⟩,
    ⟨(some 16), .load 1 false (.t 15), none, 263168, 4, []⟩,
    ⟨(some 17), .mv (.t 1), none, 263424, 5, []⟩,
    ⟨(some 18), .bin .neq (.t 16) (.t 17), none, 263680, 6, []⟩])
  (.cond (.t 18)
   (.seq (.reg [⟨(some 4), .mv (.k (.int .i64 (-1))), none, 327680, 0, []⟩])
   (.ret))
   (.skip)))
  (.seq (.reg [⟨(some 19), .mv (.t 1), none, 393216, 0, []⟩,
    ⟨(some 20), .bin .add (.t 19) (.k (.int .i64 1)), none, 393472, 1, []⟩,
    ⟨(some 1), .mv (.t 20), none, 393728, 2, []⟩])
  (.seq (.seq (.reg [⟨(some 21), .mv (.t 0), none, 458752, 0, []⟩,
    ⟨(some 22), .mv (.t 5), none, 459008, 1, []⟩,
    ⟨(some 23), .iaddr 9 (.t 21) (.t 22), none, 459264, 2, []⟩,
    ⟨(some 24), .faddr 1 (.t 23), none, 459520, 3, []⟩,
    ⟨(some 25), .faddr 0 (.t 24), none, 459776, 4, []⟩,
    ⟨(some 26), .load 1 false (.t 25), none, 460032, 5, []⟩,
    ⟨(some 27), .mv (.t 1), none, 460288, 6, []⟩,
    ⟨(some 28), .bin .neq (.t 26) (.t 27), none, 460544, 7, []⟩])
  (.cond (.t 28)
   (.seq (.reg [⟨(some 4), .mv (.k (.int .i64 (-1))), none, 524288, 0, []⟩])
   (.ret))
   (.skip)))
  (.seq (.reg [⟨(some 29), .mv (.t 1), none, 589824, 0, []⟩,
    ⟨(some 30), .bin .add (.t 29) (.k (.int .i64 1)), none, 590080, 1, []⟩,
    ⟨(some 1), .mv (.t 30), none, 590336, 2, []⟩])
  (.seq (.seq (.reg [⟨(some 31), .mv (.t 0), none, 655360, 0, []⟩,
    ⟨(some 32), .mv (.t 5), none, 655616, 1, []⟩,
    ⟨(some 33), .iaddr 9 (.t 31) (.t 32), none, 655872, 2, []⟩,
    ⟨(some 34), .faddr 1 (.t 33), none, 656128, 3, []⟩,
    ⟨(some 35), .faddr 1 (.t 34), none, 656384, 4, []⟩,
    ⟨(some 36), .load 1 false (.t 35), none, 656640, 5, []⟩,
    ⟨(some 37), .mv (.t 1), none, 656896, 6, []⟩,
    ⟨(some 38), .bin .neq (.t 36) (.t 37), none, 657152, 7, []⟩])
  (.cond (.t 38)
   (.seq (.reg [⟨(some 4), .mv (.k (.int .i64 (-1))), none, 720896, 0, []⟩])
   (.ret))
   (.skip)))
  (.seq (.reg [⟨(some 39), .mv (.t 1), none, 786432, 0, []⟩,
    ⟨(some 40), .bin .add (.t 39) (.k (.int .i64 1)), none, 786688, 1, []⟩,
    ⟨(some 1), .mv (.t 40), none, 786944, 2, []⟩])
  (.seq (.seq (.reg [⟨(some 41), .mv (.t 0), none, 851968, 0, []⟩,
    ⟨(some 42), .mv (.t 5), none, 852224, 1, []⟩,
    ⟨(some 43), .iaddr 9 (.t 41) (.t 42), none, 852480, 2, []⟩,
    ⟨(some 44), .faddr 3 (.t 43), none, 852736, 3, []⟩,
    ⟨(some 45), .faddr 0 (.t 44), none, 852992, 4, []⟩,
    ⟨(some 46), .load 1 false (.t 45), none, 853248, 5, []⟩,
    ⟨(some 47), .mv (.t 1), none, 853504, 6, []⟩,
    ⟨(some 48), .bin .neq (.t 46) (.t 47), none, 853760, 7, []⟩])
  (.cond (.t 48)
   (.seq (.reg [⟨(some 4), .mv (.k (.int .i64 (-1))), none, 917504, 0, []⟩])
   (.ret))
   (.skip)))
  (.seq (.reg [⟨(some 49), .mv (.t 1), none, 983040, 0, []⟩,
    ⟨(some 50), .bin .add (.t 49) (.k (.int .i64 1)), none, 983296, 1, []⟩,
    ⟨(some 1), .mv (.t 50), none, 983552, 2, []⟩])
  (.seq (.seq (.reg [⟨(some 51), .mv (.t 0), none, 1048576, 0, []⟩,
    ⟨(some 52), .mv (.t 5), none, 1048832, 1, []⟩,
    ⟨(some 53), .iaddr 9 (.t 51) (.t 52), none, 1049088, 2, []⟩,
    ⟨(some 54), .faddr 3 (.t 53), none, 1049344, 3, []⟩,
    ⟨(some 55), .faddr 1 (.t 54), none, 1049600, 4, []⟩,
    ⟨(some 56), .load 1 false (.t 55), none, 1049856, 5, []⟩,
    ⟨(some 57), .mv (.t 1), none, 1050112, 6, []⟩,
    ⟨(some 58), .bin .neq (.t 56) (.t 57), none, 1050368, 7, []⟩])
  (.cond (.t 58)
   (.seq (.reg [⟨(some 4), .mv (.k (.int .i64 (-1))), none, 1114112, 0, []⟩])
   (.ret))
   (.skip)))
  (.seq (.reg [⟨(some 59), .mv (.t 1), none, 1179648, 0, []⟩,
    ⟨(some 60), .bin .add (.t 59) (.k (.int .i64 1)), none, 1179904, 1, []⟩,
    ⟨(some 1), .mv (.t 60), none, 1180160, 2, []⟩])
  (.seq (.seq (.reg [⟨(some 61), .mv (.t 0), none, 1245184, 0, []⟩,
    ⟨(some 62), .mv (.t 5), none, 1245440, 1, []⟩,
    ⟨(some 63), .iaddr 9 (.t 61) (.t 62), none, 1245696, 2, []⟩,
    ⟨(some 64), .faddr 5 (.t 63), none, 1245952, 3, []⟩,
    ⟨(some 65), .faddr 0 (.t 64), none, 1246208, 4, []⟩,
    ⟨(some 66), .load 1 false (.t 65), none, 1246464, 5, []⟩,
    ⟨(some 67), .mv (.t 1), none, 1246720, 6, []⟩,
    ⟨(some 68), .bin .neq (.t 66) (.t 67), none, 1246976, 7, []⟩])
  (.cond (.t 68)
   (.seq (.reg [⟨(some 4), .mv (.k (.int .i64 (-1))), none, 1310720, 0, []⟩])
   (.ret))
   (.skip)))
  (.seq (.reg [⟨(some 69), .mv (.t 1), none, 1376256, 0, []⟩,
    ⟨(some 70), .bin .add (.t 69) (.k (.int .i64 1)), none, 1376512, 1, []⟩,
    ⟨(some 1), .mv (.t 70), none, 1376768, 2, []⟩])
  (.seq (.seq (.reg [⟨(some 71), .mv (.t 0), none, 1441792, 0, []⟩,
    ⟨(some 72), .mv (.t 5), none, 1442048, 1, []⟩,
    ⟨(some 73), .iaddr 9 (.t 71) (.t 72), none, 1442304, 2, []⟩,
    ⟨(some 74), .faddr 5 (.t 73), none, 1442560, 3, []⟩,
    ⟨(some 75), .faddr 1 (.t 74), none, 1442816, 4, []⟩,
    ⟨(some 76), .load 1 false (.t 75), none, 1443072, 5, []⟩,
    ⟨(some 77), .mv (.t 1), none, 1443328, 6, []⟩,
    ⟨(some 78), .bin .neq (.t 76) (.t 77), none, 1443584, 7, []⟩])
  (.cond (.t 78)
   (.seq (.reg [⟨(some 4), .mv (.k (.int .i64 (-1))), none, 1507328, 0, []⟩])
   (.ret))
   (.skip)))
  (.seq (.reg [⟨(some 79), .mv (.t 1), none, 1572864, 0, []⟩,
    ⟨(some 80), .bin .add (.t 79) (.k (.int .i64 1)), none, 1573120, 1, []⟩,
    ⟨(some 1), .mv (.t 80), none, 1573376, 2, []⟩])
  (.seq (.seq (.reg [⟨(some 81), .mv (.t 0), none, 1638400, 0, []⟩,
    ⟨(some 82), .mv (.t 5), none, 1638656, 1, []⟩,
    ⟨(some 83), .iaddr 9 (.t 81) (.t 82), none, 1638912, 2, []⟩,
    ⟨(some 84), .faddr 5 (.t 83), none, 1639168, 3, []⟩,
    ⟨(some 85), .faddr 2 (.t 84), none, 1639424, 4, []⟩,
    ⟨(some 86), .load 1 false (.t 85), none, 1639680, 5, []⟩,
    ⟨(some 87), .mv (.t 1), none, 1639936, 6, []⟩,
    ⟨(some 88), .bin .neq (.t 86) (.t 87), none, 1640192, 7, []⟩])
  (.cond (.t 88)
   (.seq (.reg [⟨(some 4), .mv (.k (.int .i64 (-1))), none, 1703936, 0, []⟩])
   (.ret))
   (.skip)))
  (.seq (.reg [⟨(some 89), .mv (.t 1), none, 1769472, 0, []⟩,
    ⟨(some 90), .bin .add (.t 89) (.k (.int .i64 1)), none, 1769728, 1, []⟩,
    ⟨(some 1), .mv (.t 90), none, 1769984, 2, []⟩])
  (.seq (.seq (.reg [⟨(some 91), .mv (.t 0), none, 1835008, 0, []⟩,
    ⟨(some 92), .mv (.t 5), none, 1835264, 1, []⟩,
    ⟨(some 93), .iaddr 9 (.t 91) (.t 92), none, 1835520, 2, []⟩,
    ⟨(some 94), .faddr 5 (.t 93), none, 1835776, 3, []⟩,
    ⟨(some 95), .faddr 3 (.t 94), none, 1836032, 4, []⟩,
    ⟨(some 96), .load 1 false (.t 95), none, 1836288, 5, []⟩,
    ⟨(some 97), .mv (.t 1), none, 1836544, 6, []⟩,
    ⟨(some 98), .bin .neq (.t 96) (.t 97), none, 1836800, 7, []⟩])
  (.cond (.t 98)
   (.seq (.reg [⟨(some 4), .mv (.k (.int .i64 (-1))), none, 1900544, 0, []⟩])
   (.ret))
   (.skip)))
  (.reg [⟨(some 99), .mv (.t 1), none, 1966080, 0, []⟩,
    ⟨(some 100), .bin .add (.t 99) (.k (.int .i64 1)), none, 1966336, 1, []⟩,
    ⟨(some 1), .mv (.t 100), none, 1966592, 2, []⟩])))))))))))))))))))
  (.reg [⟨(some 10), .mv (.t 5), none, 196608, 0, []⟩,
    ⟨(some 11), .bin .add (.t 10) (.k (.int .i64 1)), none, 196864, 1, []⟩,
    ⟨(some 5), .mv (.t 11), none, 197120, 2, []⟩]))))))
 (.seq (.reg [⟨(some 101), .mv (.t 1), none, 2031616, 0, []⟩,
   ⟨(some 4), .mv (.t 101), none, 2031872, 1, []⟩])
 (.ret)))⟩
/-- loop.example/g00849/laws.heldTry -/
def F61 : F := ⟨2, 18, [.t 4],
 .seq (.reg [⟨(some 2), .box (.t 0), none, 0, 0, []⟩,
   ⟨(some 4), .mv (.k (.int .i64 0)), none, 256, 1, []⟩])
 (.seq (.reg [⟨(some 5), .faddr 9 (.t 2), none, 65536, 0, []⟩,
   ⟨(some 6), .load 1 false (.t 5), none, 65792, 1, []⟩,
   ⟨(some 7), .mv (.t 1), none, 66048, 2, []⟩,
   ⟨(some 8), .call 97 [(.t 6), (.t 7)] true, none, 66304, 3, []⟩,
   ⟨(some 1), .mv (.t 8), none, 66560, 4, []⟩])
 (.seq (.seq (.reg [⟨(some 9), .mv (.t 1), none, 131072, 0, []⟩,
   ⟨(some 10), .bin .lss (.t 9) (.k (.int .i64 0)), none, 131328, 1, []⟩])
 (.cond (.t 10)
  (.seq (.reg [⟨(some 4), .mv (.k (.int .i64 (-1))), none, 196608, 0, []⟩])
  (.ret))
  (.skip)))
 (.seq (.reg [⟨(some 11), .faddr 10 (.t 2), none, 262144, 0, []⟩,
   ⟨(some 12), .load 1 false (.t 11), none, 262400, 1, []⟩,
   ⟨(some 13), .mv (.t 1), none, 262656, 2, []⟩,
   ⟨(some 14), .call 97 [(.t 12), (.t 13)] true, none, 262912, 3, []⟩,
   ⟨(some 1), .mv (.t 14), none, 263168, 4, []⟩])
 (.seq (.seq (.reg [⟨(some 15), .mv (.t 1), none, 327680, 0, []⟩,
   ⟨(some 16), .bin .lss (.t 15) (.k (.int .i64 0)), none, 327936, 1, []⟩])
 (.cond (.t 16)
  (.seq (.reg [⟨(some 4), .mv (.k (.int .i64 (-1))), none, 393216, 0, []⟩])
  (.ret))
  (.skip)))
 (.seq (.reg [⟨(some 17), .mv (.t 1), none, 458752, 0, []⟩,
   ⟨(some 4), .mv (.t 17), none, 459008, 1, []⟩])
 (.ret))))))⟩
/-- loop.example/g00849/spec.IncOk -/
def F62 : F := ⟨1, 5, [.t 2],
 .seq (.reg [⟨(some 1), .box (.t 0), none, 0, 0, []⟩,
   ⟨(some 2), .mv (.k (.bool false)), none, 256, 1, []⟩])
 (.seq (.reg [⟨(some 3), .load 4 true (.t 1), none, 65536, 0, []⟩,
   ⟨(some 4), .call 98 [(.t 3)] true, none, 65792, 1, []⟩,
   ⟨(some 2), .mv (.t 4), none, 66048, 2, []⟩])
 (.ret))⟩
/-- (loop.example/g00849/impl.Mon).tryOk -/
def F67 : F := ⟨1, 82, [.t 2],
 .seq (.reg [⟨(some 1), .box (.t 0), none, 0, 0, []⟩,
   ⟨(some 2), .mv (.k (.bool false)), none, 256, 1, []⟩])
 (.seq (.reg [⟨(some 4), .faddr 3 (.t 1), none, 65536, 0, []⟩,
   ⟨(some 5), .load 12 true (.t 4), none, 65792, 1, []⟩,
   ⟨(some 3), .alloc [(.int .i64 0), (.int .i64 0), (.int .i64 0), (.int .i64 0), (.int .i64 0), (.int .i64 0), (.int .i64 0), (.int .i64 0), (.int .i64 0), (.nil true 1), (.nil true 1), (.bool false)], none, 66048, 2, []⟩,
   ⟨none, .store 12 (.t 3) (.t 5), none, 66304, 3, []⟩])
 (.seq (.seq (.reg [⟨(some 6), .load 12 true (.t 3), none, 131072, 0, []⟩,
   ⟨(some 7), .call 99 [(.t 6)] true, none, 131328, 1, []⟩])
 (.cond (.t 7)
  (.seq (.reg [⟨(some 2), .mv (.k (.bool true)), none, 196608, 0, []⟩])
  (.ret))
  (.skip)))
 (.seq (.reg [⟨(some 8), .faddr 0 (.t 3), none, 262144, 0, []⟩,
   ⟨(some 9), .load 1 false (.t 8), none, 262400, 1, []⟩,
   ⟨(some 10), .call 80 [(.t 9)] true, none, 262656, 2, []⟩,
   ⟨(some 11), .mv (.t 10), none, 262912, 3, []⟩,
   ⟨(some 12), .faddr 1 (.t 3), (some (some 11, true)), 263168, 4, []⟩,
   ⟨(some 13), .load 2 true (.t 12), (some (some 11, true)), 263424, 5, []⟩,
   ⟨(some 14), .call 81 [(.t 13)] true, (some (some 11, true)), 263680, 6, []⟩,
   ⟨(some 15), .pick (.t 11) (.t 14) (.k (.bool false)), none, 263936, 7, []⟩,
   ⟨(some 16), .mv (.t 15), none, 264192, 8, []⟩,
   ⟨(some 17), .faddr 1 (.t 3), (some (some 16, true)), 264448, 9, []⟩,
   ⟨(some 18), .load 2 true (.t 17), (some (some 16, true)), 264704, 10, []⟩,
   ⟨(some 19), .build [(.int .i64 0), (.int .i64 0)] [], (some (some 16, true)), 264960, 11, []⟩,
   ⟨(some 20), .eqv true true [.i, .i] (.t 18) (.t 19), (some (some 16, true)), 265216, 12, []⟩,
   ⟨(some 21), .pick (.t 16) (.t 20) (.k (.bool false)), none, 265472, 13, []⟩,
   ⟨(some 22), .mv (.t 21), none, 265728, 14, []⟩,
   ⟨(some 23), .faddr 1 (.t 3), (some (some 22, true)), 265984, 15, []⟩,
   ⟨(some 24), .faddr 1 (.t 23), (some (some 22, true)), 266240, 16, []⟩,
   ⟨(some 25), .load 1 false (.t 24), (some (some 22, true)), 266496, 17, []⟩,
   ⟨(some 26), .faddr 0 (.t 1), (some (some 22, true)), 266752, 18, []⟩,
   ⟨(some 27), .load 1 false (.t 26), (some (some 22, true)), 267008, 19, []⟩,
   ⟨(some 28), .bin .eql (.t 25) (.t 27), (some (some 22, true)), 267264, 20, []⟩,
   ⟨(some 29), .pick (.t 22) (.t 28) (.k (.bool false)), none, 267520, 21, []⟩,
   ⟨(some 30), .mv (.t 29), none, 267776, 22, []⟩,
   ⟨(some 31), .faddr 3 (.t 3), (some (some 30, true)), 268032, 23, []⟩,
   ⟨(some 32), .load 4 true (.t 31), (some (some 30, true)), 268288, 24, []⟩,
   ⟨(some 33), .faddr 0 (.t 3), (some (some 30, true)), 268544, 25, []⟩,
   ⟨(some 34), .load 1 false (.t 33), (some (some 30, true)), 268800, 26, []⟩,
   ⟨(some 35), .call 83 [(.t 32), (.t 34)] true, (some (some 30, true)), 269056, 27, []⟩,
   ⟨(some 36), .pick (.t 30) (.t 35) (.k (.bool false)), none, 269312, 28, []⟩,
   ⟨(some 37), .mv (.t 36), none, 269568, 29, []⟩,
   ⟨(some 38), .faddr 7 (.t 3), (some (some 37, true)), 269824, 30, []⟩,
   ⟨(some 39), .load 2 true (.t 38), (some (some 37, true)), 270080, 31, []⟩,
   ⟨(some 40), .call 81 [(.t 39)] true, (some (some 37, true)), 270336, 32, []⟩,
   ⟨(some 41), .pick (.t 37) (.t 40) (.k (.bool false)), none, 270592, 33, []⟩,
   ⟨(some 42), .mv (.t 41), none, 270848, 34, []⟩,
   ⟨(some 43), .faddr 7 (.t 3), (some (some 42, true)), 271104, 35, []⟩,
   ⟨(some 44), .load 2 true (.t 43), (some (some 42, true)), 271360, 36, []⟩,
   ⟨(some 45), .faddr 1 (.t 3), (some (some 42, true)), 271616, 37, []⟩,
   ⟨(some 46), .load 2 true (.t 45), (some (some 42, true)), 271872, 38, []⟩,
   ⟨(some 47), .call 42 [(.t 44), (.t 46)] true, (some (some 42, true)), 272128, 39, []⟩,
   ⟨(some 48), .pick (.t 42) (.t 47) (.k (.bool false)), none, 272384, 40, []⟩,
   ⟨(some 49), .mv (.t 48), none, 272640, 41, []⟩,
   ⟨(some 50), .load 15 true (.t 1), (some (some 49, true)), 272896, 42, []⟩,
   ⟨(some 51), .faddr 9 (.t 3), (some (some 49, true)), 273152, 43, []⟩,
   ⟨(some 52), .load 1 false (.t 51), (some (some 49, true)), 273408, 44, []⟩,
   ⟨(some 53), .call 100 [(.t 50), (.t 52)] true, (some (some 49, true)), 273664, 45, []⟩,
   ⟨(some 54), .pick (.t 49) (.t 53) (.k (.bool false)), none, 273920, 46, []⟩,
   ⟨(some 55), .mv (.t 54), none, 274176, 47, []⟩,
   ⟨(some 56), .load 15 true (.t 1), (some (some 55, true)), 274432, 48, []⟩,
   ⟨(some 57), .faddr 10 (.t 3), (some (some 55, true)), 274688, 49, []⟩,
   ⟨(some 58), .load 1 false (.t 57), (some (some 55, true)), 274944, 50, []⟩,
   ⟨(some 59), .call 100 [(.t 56), (.t 58)] true, (some (some 55, true)), 275200, 51, []⟩,
   ⟨(some 60), .pick (.t 55) (.t 59) (.k (.bool false)), none, 275456, 52, []⟩,
   ⟨(some 61), .mv (.t 60), none, 275712, 53, []⟩,
   ⟨(some 62), .faddr 10 (.t 3), (some (some 61, true)), 275968, 54, []⟩,
   ⟨(some 63), .load 1 false (.t 62), (some (some 61, true)), 276224, 55, []⟩,
   ⟨(some 64), .len false (.t 63), (some (some 61, true)), 276480, 56, []⟩,
   ⟨(some 65), .bin .eql (.t 64) (.k (.int .i64 0)), (some (some 61, true)), 276736, 57, []⟩,
   ⟨(some 66), .mv (.t 65), (some (some 61, true)), 276992, 58, []⟩,
   ⟨(some 67), .load 15 true (.t 1), (some (some 66, false)), 277248, 59, []⟩,
   ⟨(some 68), .faddr 9 (.t 3), (some (some 66, false)), 277504, 60, []⟩,
   ⟨(some 69), .load 1 false (.t 68), (some (some 66, false)), 277760, 61, []⟩,
   ⟨(some 70), .call 32 [(.t 67), (.t 69)] true, (some (some 66, false)), 278016, 62, []⟩,
   ⟨(some 71), .pick (.t 66) (.k (.bool true)) (.t 70), (some (some 61, true)), 278272, 63, []⟩,
   ⟨(some 72), .pick (.t 61) (.t 71) (.k (.bool false)), none, 278528, 64, []⟩,
   ⟨(some 73), .mv (.t 72), none, 278784, 65, []⟩,
   ⟨(some 74), .faddr 11 (.t 3), (some (some 73, true)), 279040, 66, []⟩,
   ⟨(some 75), .load 1 false (.t 74), (some (some 73, true)), 279296, 67, []⟩,
   ⟨(some 76), .load 15 true (.t 1), (some (some 73, true)), 279552, 68, []⟩,
   ⟨(some 77), .faddr 10 (.t 3), (some (some 73, true)), 279808, 69, []⟩,
   ⟨(some 78), .load 1 false (.t 77), (some (some 73, true)), 280064, 70, []⟩,
   ⟨(some 79), .call 32 [(.t 76), (.t 78)] true, (some (some 73, true)), 280320, 71, []⟩,
   ⟨(some 80), .eqv false false [.b] (.t 75) (.t 79), (some (some 73, true)), 280576, 72, []⟩,
   ⟨(some 81), .pick (.t 73) (.t 80) (.k (.bool false)), none, 280832, 73, []⟩,
   ⟨(some 2), .mv (.t 81), none, 281088, 74, []⟩])
 (.ret))))⟩
/-- loop.example/g00849/impl.slotOk -/
def F68 : F := ⟨1, 33, [.t 2],
 .seq (.reg [⟨(some 1), .box (.t 0), none, 0, 0, []⟩,
   ⟨(some 2), .mv (.k (.bool false)), none, 256, 1, []⟩])
 (.seq (.reg [⟨(some 3), .faddr 0 (.t 1), none, 65536, 0, []⟩,
   ⟨(some 4), .load 1 false (.t 3), none, 65792, 1, []⟩,
   ⟨(some 5), .call 80 [(.t 4)] true, none, 66048, 2, []⟩,
   ⟨(some 6), .mv (.t 5), none, 66304, 3, []⟩,
   ⟨(some 7), .faddr 1 (.t 1), (some (some 6, true)), 66560, 4, []⟩,
   ⟨(some 8), .load 2 true (.t 7), (some (some 6, true)), 66816, 5, []⟩,
   ⟨(some 9), .call 81 [(.t 8)] true, (some (some 6, true)), 67072, 6, []⟩,
   ⟨(some 10), .pick (.t 6) (.t 9) (.k (.bool false)), none, 67328, 7, []⟩,
   ⟨(some 11), .mv (.t 10), none, 67584, 8, []⟩,
   ⟨(some 12), .faddr 3 (.t 1), (some (some 11, true)), 67840, 9, []⟩,
   ⟨(some 13), .load 2 true (.t 12), (some (some 11, true)), 68096, 10, []⟩,
   ⟨(some 14), .call 81 [(.t 13)] true, (some (some 11, true)), 68352, 11, []⟩,
   ⟨(some 15), .pick (.t 11) (.t 14) (.k (.bool false)), none, 68608, 12, []⟩,
   ⟨(some 16), .mv (.t 15), none, 68864, 13, []⟩,
   ⟨(some 17), .faddr 1 (.t 1), (some (some 16, true)), 69120, 14, []⟩,
   ⟨(some 18), .load 2 true (.t 17), (some (some 16, true)), 69376, 15, []⟩,
   ⟨(some 19), .faddr 3 (.t 1), (some (some 16, true)), 69632, 16, []⟩,
   ⟨(some 20), .load 2 true (.t 19), (some (some 16, true)), 69888, 17, []⟩,
   ⟨(some 21), .call 42 [(.t 18), (.t 20)] true, (some (some 16, true)), 70144, 18, []⟩,
   ⟨(some 22), .not (.t 21), (some (some 16, true)), 70400, 19, []⟩,
   ⟨(some 23), .pick (.t 16) (.t 22) (.k (.bool false)), none, 70656, 20, []⟩,
   ⟨(some 24), .mv (.t 23), none, 70912, 21, []⟩,
   ⟨(some 25), .faddr 5 (.t 1), (some (some 24, true)), 71168, 22, []⟩,
   ⟨(some 26), .load 4 true (.t 25), (some (some 24, true)), 71424, 23, []⟩,
   ⟨(some 27), .faddr 3 (.t 1), (some (some 24, true)), 71680, 24, []⟩,
   ⟨(some 28), .load 2 true (.t 27), (some (some 24, true)), 71936, 25, []⟩,
   ⟨(some 29), .faddr 0 (.t 1), (some (some 24, true)), 72192, 26, []⟩,
   ⟨(some 30), .load 1 false (.t 29), (some (some 24, true)), 72448, 27, []⟩,
   ⟨(some 31), .call 82 [(.t 26), (.t 28), (.t 30)] true, (some (some 24, true)), 72704, 28, []⟩,
   ⟨(some 32), .pick (.t 24) (.t 31) (.k (.bool false)), none, 72960, 29, []⟩,
   ⟨(some 2), .mv (.t 32), none, 73216, 30, []⟩])
 (.ret))⟩
/-- loop.example/g00849/spec.l21Full -/
def F69 : F := ⟨1, 10, [.t 2],
 .seq (.reg [⟨(some 1), .box (.t 0), none, 0, 0, []⟩,
   ⟨(some 2), .mv (.k (.bool false)), none, 256, 1, []⟩])
 (.seq (.reg [⟨(some 3), .load 2 true (.t 1), none, 65536, 0, []⟩,
   ⟨(some 4), .call 36 [(.t 3)] true, none, 65792, 1, []⟩,
   ⟨(some 5), .mv (.t 4), none, 66048, 2, []⟩,
   ⟨(some 6), .load 2 true (.t 1), (some (some 5, true)), 66304, 3, []⟩,
   ⟨(some 7), .build [(.int .i64 0), (.int .i64 0)] [], (some (some 5, true)), 66560, 4, []⟩,
   ⟨(some 8), .eqv true true [.i, .i] (.t 6) (.t 7), (some (some 5, true)), 66816, 5, []⟩,
   ⟨(some 9), .pick (.t 5) (.t 8) (.k (.bool false)), none, 67072, 6, []⟩,
   ⟨(some 2), .mv (.t 9), none, 67328, 7, []⟩])
 (.ret))⟩
/-- loop.example/g00849/spec.l00Rises -/
def F70 : F := ⟨3, 38, [.t 6],
 .seq (.reg [⟨(some 6), .mv (.k (.bool false)), none, 0, 0, []⟩])
 (.seq (.seq (.reg [⟨(some 7), .mv (.k (.int .i64 0)), none, 65536, 0, []⟩])
 (.block 0 (.loop [0, 1, 2, 7] []
  (.seq (.seq (.reg [⟨(some 8), .mv (.t 7), none, 131072, 0, []⟩,
    ⟨(some 9), .mv (.t 0), none, 131328, 1, []⟩,
    ⟨(some 10), .len false (.t 9), none, 131584, 2, []⟩,
    ⟨(some 11), .bin .lss (.t 8) (.t 10), none, 131840, 3, []⟩])
  (.cond (.t 11)
   (.skip)
   (.exit 0)))
  (.seq (.block 1 (.seq (.reg [⟨(some 14), .mv (.t 0), none, 262144, 0, []⟩,
    ⟨(some 15), .mv (.t 7), none, 262400, 1, []⟩,
    ⟨(some 16), .iaddr 1 (.t 14) (.t 15), none, 262656, 2, []⟩,
    ⟨(some 17), .load 1 false (.t 16), none, 262912, 3, []⟩,
    ⟨(some 18), .mv (.t 1), none, 263168, 4, []⟩,
    ⟨(some 19), .mv (.t 2), none, 263424, 5, []⟩,
    ⟨(some 20), .call 34 [(.t 17), (.t 18), (.t 19)] true, none, 263680, 6, []⟩,
    ⟨(some 21), .not (.t 20), none, 263936, 7, []⟩,
    ⟨(some 22), .mv (.t 21), none, 264192, 8, []⟩,
    ⟨(some 23), .mv (.t 7), (some (some 22, false)), 264448, 9, []⟩,
    ⟨(some 24), .bin .gtr (.t 23) (.k (.int .i64 0)), (some (some 22, false)), 264704, 10, []⟩,
    ⟨(some 25), .mv (.t 24), (some (some 22, false)), 264960, 11, []⟩,
    ⟨(some 26), .mv (.t 0), (some (some 25, true)), 265216, 12, []⟩,
    ⟨(some 27), .mv (.t 7), (some (some 25, true)), 265472, 13, []⟩,
    ⟨(some 28), .bin .sub (.t 27) (.k (.int .i64 1)), (some (some 25, true)), 265728, 14, []⟩,
    ⟨(some 29), .iaddr 1 (.t 26) (.t 28), (some (some 25, true)), 265984, 15, []⟩,
    ⟨(some 30), .load 1 false (.t 29), (some (some 25, true)), 266240, 16, []⟩,
    ⟨(some 31), .mv (.t 0), (some (some 25, true)), 266496, 17, []⟩,
    ⟨(some 32), .mv (.t 7), (some (some 25, true)), 266752, 18, []⟩,
    ⟨(some 33), .iaddr 1 (.t 31) (.t 32), (some (some 25, true)), 267008, 19, []⟩,
    ⟨(some 34), .load 1 false (.t 33), (some (some 25, true)), 267264, 20, []⟩,
    ⟨(some 35), .bin .geq (.t 30) (.t 34), (some (some 25, true)), 267520, 21, []⟩,
    ⟨(some 36), .pick (.t 25) (.t 35) (.k (.bool false)), (some (some 22, false)), 267776, 22, []⟩,
    ⟨(some 37), .pick (.t 22) (.k (.bool true)) (.t 36), none, 268032, 23, []⟩])
  (.cond (.t 37)
   (.seq (.reg [⟨(some 6), .mv (.k (.bool false)), none, 327680, 0, []⟩])
   (.ret))
   (.skip))))
  (.reg [⟨(some 12), .mv (.t 7), none, 196608, 0, []⟩,
    ⟨(some 13), .bin .add (.t 12) (.k (.int .i64 1)), none, 196864, 1, []⟩,
    ⟨(some 7), .mv (.t 13), none, 197120, 2, []⟩]))))))
 (.seq (.reg [⟨(some 6), .mv (.k (.bool true)), none, 393216, 0, []⟩])
 (.ret)))⟩
/-- loop.example/g00849/spec.l21Most -/
def F71 : F := ⟨2, 10, [.t 4],
 .seq (.reg [⟨(some 4), .mv (.k (.bool false)), none, 0, 0, []⟩])
 (.seq (.reg [⟨(some 5), .mv (.t 0), none, 65536, 0, []⟩,
   ⟨(some 6), .len false (.t 5), none, 65792, 1, []⟩,
   ⟨(some 7), .bin .mul (.k (.int .i64 2)) (.t 6), none, 66048, 2, []⟩,
   ⟨(some 8), .mv (.t 1), none, 66304, 3, []⟩,
   ⟨(some 9), .bin .gtr (.t 7) (.t 8), none, 66560, 4, []⟩,
   ⟨(some 4), .mv (.t 9), none, 66816, 5, []⟩])
 (.ret))⟩
/-- loop.example/g00849/impl.isNode -/
def F72 : F := ⟨1, 5, [.t 2],
 .seq (.reg [⟨(some 2), .mv (.k (.bool false)), none, 0, 0, []⟩])
 (.seq (.reg [⟨(some 3), .mv (.t 0), none, 65536, 0, []⟩,
   ⟨(some 4), .call 41 [(.t 3), (.k (.int .i64 0)), (.k (.int .i64 15))] true, none, 65792, 1, []⟩,
   ⟨(some 2), .mv (.t 4), none, 66048, 2, []⟩])
 (.ret))⟩
/-- loop.example/g00849/impl.compareBallots -/
def F73 : F := ⟨2, 17, [.t 4],
 .seq (.reg [⟨(some 2), .box (.t 0), none, 0, 0, []⟩,
   ⟨(some 3), .box (.t 1), none, 256, 1, []⟩,
   ⟨(some 4), .mv (.k (.int .i64 0)), none, 512, 2, []⟩])
 (.seq (.reg [⟨(some 5), .faddr 0 (.t 2), none, 65536, 0, []⟩,
   ⟨(some 6), .load 1 false (.t 5), none, 65792, 1, []⟩,
   ⟨(some 7), .faddr 0 (.t 3), none, 66048, 2, []⟩,
   ⟨(some 8), .load 1 false (.t 7), none, 66304, 3, []⟩,
   ⟨(some 9), .call 78 [(.t 6), (.t 8)] true, none, 66560, 4, []⟩,
   ⟨(some 10), .faddr 1 (.t 2), none, 66816, 5, []⟩,
   ⟨(some 11), .load 1 false (.t 10), none, 67072, 6, []⟩,
   ⟨(some 12), .faddr 1 (.t 3), none, 67328, 7, []⟩,
   ⟨(some 13), .load 1 false (.t 12), none, 67584, 8, []⟩,
   ⟨(some 14), .call 78 [(.t 11), (.t 13)] true, none, 67840, 9, []⟩,
   ⟨(some 15), .bslice true 1 [(.int .i64 0)] 2 [(0, (.t 9)), (1, (.t 14))], none, 68096, 10, []⟩,
   ⟨(some 16), .call 101 [(.t 15)] true, none, 68352, 11, []⟩,
   ⟨(some 4), .mv (.t 16), none, 68608, 12, []⟩])
 (.ret))⟩
/-- slices.Clone[[]loop.example/g00849/impl.Slot,loop.example/g00849/impl.Slot] -/
def F74 : F := ⟨1, 8, [.t 2],
 .seq (.reg [⟨(some 2), .nil0 true 9, none, 0, 0, []⟩])
 (.seq (.seq (.reg [⟨(some 3), .mv (.t 0), none, 65536, 0, []⟩])
 (.ifnil false 4 (.t 3)
  (.seq (.reg [⟨(some 2), .nil0 true 9, none, 131072, 0, []⟩])
  (.ret))
  (.skip)))
 (.seq (.reg [⟨(some 5), .bslice true 9 [(.int .i64 0), (.int .i64 0), (.int .i64 0), (.int .i64 0), (.int .i64 0), (.int .i64 0), (.int .i64 0), (.int .i64 0), (.int .i64 0)] 0 [], none, 196608, 0, []⟩,
   ⟨(some 6), .mv (.t 0), none, 196864, 1, []⟩,
   ⟨(some 7), .app true 9 72 (.t 5) (.t 6), none, 197120, 2, []⟩,
   ⟨(some 2), .mv (.t 7), none, 197376, 3, []⟩])
 (.ret)))⟩
/-- slices.Clone[[]int64,int64] -/
def F75 : F := ⟨1, 8, [.t 2],
 .seq (.reg [⟨(some 2), .nil0 true 1, none, 0, 0, []⟩])
 (.seq (.seq (.reg [⟨(some 3), .mv (.t 0), none, 65536, 0, []⟩])
 (.ifnil false 4 (.t 3)
  (.seq (.reg [⟨(some 2), .nil0 true 1, none, 131072, 0, []⟩])
  (.ret))
  (.skip)))
 (.seq (.reg [⟨(some 5), .bslice true 1 [(.int .i64 0)] 0 [], none, 196608, 0, []⟩,
   ⟨(some 6), .mv (.t 0), none, 196864, 1, []⟩,
   ⟨(some 7), .app true 1 8 (.t 5) (.t 6), none, 197120, 2, []⟩,
   ⟨(some 2), .mv (.t 7), none, 197376, 3, []⟩])
 (.ret)))⟩
/-- cmp.Compare[int64] -/
def F78 : F := ⟨2, 20, [.t 4],
 .seq (.reg [⟨(some 4), .mv (.k (.int .i64 0)), none, 0, 0, []⟩])
 (.seq (.reg [⟨(some 7), .mv (.t 0), none, 65536, 0, []⟩,
   ⟨(some 8), .call 102 [(.t 7)] true, none, 65792, 1, []⟩,
   ⟨(some 5), .mv (.t 8), none, 66048, 2, []⟩])
 (.seq (.reg [⟨(some 9), .mv (.t 1), none, 131072, 0, []⟩,
   ⟨(some 10), .call 102 [(.t 9)] true, none, 131328, 1, []⟩,
   ⟨(some 6), .mv (.t 10), none, 131584, 2, []⟩])
 (.seq (.seq (.reg [⟨(some 11), .mv (.t 5), none, 196608, 0, []⟩])
 (.cond (.t 11)
  (.seq (.seq (.reg [⟨(some 12), .mv (.t 6), none, 262144, 0, []⟩])
  (.cond (.t 12)
   (.seq (.reg [⟨(some 4), .mv (.k (.int .i64 0)), none, 327680, 0, []⟩])
   (.ret))
   (.skip)))
  (.seq (.reg [⟨(some 4), .mv (.k (.int .i64 (-1))), none, 393216, 0, []⟩])
  (.ret)))
  (.skip)))
 (.seq (.seq (.reg [⟨(some 13), .mv (.t 6), none, 458752, 0, []⟩])
 (.cond (.t 13)
  (.seq (.reg [⟨(some 4), .mv (.k (.int .i64 1)), none, 524288, 0, []⟩])
  (.ret))
  (.skip)))
 (.seq (.seq (.reg [⟨(some 14), .mv (.t 0), none, 589824, 0, []⟩,
   ⟨(some 15), .mv (.t 1), none, 590080, 1, []⟩,
   ⟨(some 16), .bin .lss (.t 14) (.t 15), none, 590336, 2, []⟩])
 (.cond (.t 16)
  (.seq (.reg [⟨(some 4), .mv (.k (.int .i64 (-1))), none, 655360, 0, []⟩])
  (.ret))
  (.skip)))
 (.seq (.seq (.reg [⟨(some 17), .mv (.t 0), none, 720896, 0, []⟩,
   ⟨(some 18), .mv (.t 1), none, 721152, 1, []⟩,
   ⟨(some 19), .bin .gtr (.t 17) (.t 18), none, 721408, 2, []⟩])
 (.cond (.t 19)
  (.seq (.reg [⟨(some 4), .mv (.k (.int .i64 1)), none, 786432, 0, []⟩])
  (.ret))
  (.skip)))
 (.seq (.reg [⟨(some 4), .mv (.k (.int .i64 0)), none, 851968, 0, []⟩])
 (.ret))))))))⟩
/-- loop.example/g00849/impl.isDecidable -/
def F80 : F := ⟨1, 5, [.t 2],
 .seq (.reg [⟨(some 2), .mv (.k (.bool false)), none, 0, 0, []⟩])
 (.seq (.reg [⟨(some 3), .mv (.t 0), none, 65536, 0, []⟩,
   ⟨(some 4), .call 41 [(.t 3), (.k (.int .i64 2)), (.k (.int .i64 60))] true, none, 65792, 1, []⟩,
   ⟨(some 2), .mv (.t 4), none, 66048, 2, []⟩])
 (.ret))⟩
/-- loop.example/g00849/impl.ballotOk -/
def F81 : F := ⟨1, 16, [.t 2],
 .seq (.reg [⟨(some 1), .box (.t 0), none, 0, 0, []⟩,
   ⟨(some 2), .mv (.k (.bool false)), none, 256, 1, []⟩])
 (.seq (.reg [⟨(some 3), .load 2 true (.t 1), none, 65536, 0, []⟩,
   ⟨(some 4), .build [(.int .i64 0), (.int .i64 0)] [], none, 65792, 1, []⟩,
   ⟨(some 5), .eqv false true [.i, .i] (.t 3) (.t 4), none, 66048, 2, []⟩,
   ⟨(some 6), .mv (.t 5), none, 66304, 3, []⟩,
   ⟨(some 7), .faddr 0 (.t 1), (some (some 6, false)), 66560, 4, []⟩,
   ⟨(some 8), .load 1 false (.t 7), (some (some 6, false)), 66816, 5, []⟩,
   ⟨(some 9), .call 41 [(.t 8), (.k (.int .i64 1)), (.k (.int .i64 999))] true, (some (some 6, false)), 67072, 6, []⟩,
   ⟨(some 10), .mv (.t 9), (some (some 6, false)), 67328, 7, []⟩,
   ⟨(some 11), .faddr 1 (.t 1), (some (some 10, true)), 67584, 8, []⟩,
   ⟨(some 12), .load 1 false (.t 11), (some (some 10, true)), 67840, 9, []⟩,
   ⟨(some 13), .call 41 [(.t 12), (.k (.int .i64 0)), (.k (.int .i64 4))] true, (some (some 10, true)), 68096, 10, []⟩,
   ⟨(some 14), .pick (.t 10) (.t 13) (.k (.bool false)), (some (some 6, false)), 68352, 11, []⟩,
   ⟨(some 15), .pick (.t 6) (.k (.bool true)) (.t 14), none, 68608, 12, []⟩,
   ⟨(some 2), .mv (.t 15), none, 68864, 13, []⟩])
 (.ret))⟩
/-- loop.example/g00849/impl.incWith -/
def F82 : F := ⟨3, 16, [.t 6],
 .seq (.reg [⟨(some 3), .box (.t 0), none, 0, 0, []⟩,
   ⟨(some 4), .box (.t 1), none, 256, 1, []⟩,
   ⟨(some 6), .mv (.k (.bool false)), none, 512, 2, []⟩])
 (.seq (.seq (.reg [⟨(some 7), .load 2 true (.t 4), none, 65536, 0, []⟩,
   ⟨(some 8), .build [(.int .i64 0), (.int .i64 0)] [], none, 65792, 1, []⟩,
   ⟨(some 9), .eqv false true [.i, .i] (.t 7) (.t 8), none, 66048, 2, []⟩])
 (.cond (.t 9)
  (.seq (.reg [⟨(some 10), .load 4 true (.t 3), none, 131072, 0, []⟩,
    ⟨(some 11), .build [(.int .i64 0), (.int .i64 0), (.int .i64 0), (.int .i64 0)] [], none, 131328, 1, []⟩,
    ⟨(some 12), .eqv false true [.i, .i, .i, .i] (.t 10) (.t 11), none, 131584, 2, []⟩,
    ⟨(some 6), .mv (.t 12), none, 131840, 3, []⟩])
  (.ret))
  (.skip)))
 (.seq (.reg [⟨(some 13), .load 4 true (.t 3), none, 196608, 0, []⟩,
   ⟨(some 14), .mv (.t 2), none, 196864, 1, []⟩,
   ⟨(some 15), .call 83 [(.t 13), (.t 14)] true, none, 197120, 2, []⟩,
   ⟨(some 6), .mv (.t 15), none, 197376, 3, []⟩])
 (.ret)))⟩
/-- loop.example/g00849/impl.incFor -/
def F83 : F := ⟨2, 13, [.t 4],
 .seq (.reg [⟨(some 2), .box (.t 0), none, 0, 0, []⟩,
   ⟨(some 4), .mv (.k (.bool false)), none, 256, 1, []⟩])
 (.seq (.reg [⟨(some 5), .load 4 true (.t 2), none, 65536, 0, []⟩,
   ⟨(some 6), .call 40 [(.t 5)] true, none, 65792, 1, []⟩,
   ⟨(some 7), .mv (.t 6), none, 66048, 2, []⟩,
   ⟨(some 8), .faddr 0 (.t 2), (some (some 7, true)), 66304, 3, []⟩,
   ⟨(some 9), .load 1 false (.t 8), (some (some 7, true)), 66560, 4, []⟩,
   ⟨(some 10), .mv (.t 1), (some (some 7, true)), 66816, 5, []⟩,
   ⟨(some 11), .bin .eql (.t 9) (.t 10), (some (some 7, true)), 67072, 6, []⟩,
   ⟨(some 12), .pick (.t 7) (.t 11) (.k (.bool false)), none, 67328, 7, []⟩,
   ⟨(some 4), .mv (.t 12), none, 67584, 8, []⟩])
 (.ret))⟩
/-- loop.example/g00849/laws.szInt64S -/
def F87 : F := ⟨2, 12, [.t 4],
 .seq (.reg [⟨(some 4), .mv (.k (.int .i64 0)), none, 0, 0, []⟩])
 (.seq (.reg [⟨(some 5), .mv (.t 1), none, 65536, 0, []⟩,
   ⟨(some 6), .mv (.t 0), none, 65792, 1, []⟩,
   ⟨(some 7), .len false (.t 6), none, 66048, 2, []⟩,
   ⟨(some 8), .bin .sub (.t 5) (.t 7), none, 66304, 3, []⟩,
   ⟨(some 1), .mv (.t 8), none, 66560, 4, []⟩])
 (.seq (.seq (.reg [⟨(some 9), .mv (.t 1), none, 131072, 0, []⟩,
   ⟨(some 10), .bin .lss (.t 9) (.k (.int .i64 0)), none, 131328, 1, []⟩])
 (.cond (.t 10)
  (.seq (.reg [⟨(some 4), .mv (.k (.int .i64 (-1))), none, 196608, 0, []⟩])
  (.ret))
  (.skip)))
 (.seq (.reg [⟨(some 11), .mv (.t 1), none, 262144, 0, []⟩,
   ⟨(some 4), .mv (.t 11), none, 262400, 1, []⟩])
 (.ret))))⟩
/-- loop.example/g00849/spec.l00Own -/
def F88 : F := ⟨1, 6, [.t 2],
 .seq (.reg [⟨(some 2), .nil0 true 1, none, 0, 0, []⟩])
 (.seq (.reg [⟨(some 3), .bslice true 1 [(.int .i64 0)] 0 [], none, 65536, 0, []⟩,
   ⟨(some 4), .mv (.t 0), none, 65792, 1, []⟩,
   ⟨(some 5), .app true 1 8 (.t 3) (.t 4), none, 66048, 2, []⟩,
   ⟨(some 2), .mv (.t 5), none, 66304, 3, []⟩])
 (.ret))⟩
/-- loop.example/g00849/laws.toSlot -/
def F89 : F := ⟨1, 20, [.cell 2 9 true],
 .seq (.reg [⟨(some 1), .box (.t 0), none, 0, 0, []⟩,
   ⟨(some 2), .alloc [(.int .i64 0), (.int .i64 0), (.int .i64 0), (.int .i64 0), (.int .i64 0), (.int .i64 0), (.int .i64 0), (.int .i64 0), (.int .i64 0)], none, 256, 1, []⟩])
 (.seq (.reg [⟨(some 3), .alloc [(.int .i64 0), (.int .i64 0), (.int .i64 0), (.int .i64 0), (.int .i64 0), (.int .i64 0), (.int .i64 0), (.int .i64 0), (.int .i64 0)], none, 65536, 0, []⟩])
 (.seq (.reg [⟨(some 4), .faddr 0 (.t 1), none, 131072, 0, []⟩,
   ⟨(some 5), .load 1 false (.t 4), none, 131328, 1, []⟩,
   ⟨(some 6), .faddr 0 (.t 3), none, 131584, 2, []⟩,
   ⟨none, .store 1 (.t 6) (.t 5), none, 131840, 3, []⟩])
 (.seq (.reg [⟨(some 7), .faddr 1 (.t 1), none, 196608, 0, []⟩,
   ⟨(some 8), .load 2 true (.t 7), none, 196864, 1, []⟩,
   ⟨(some 9), .call 90 [(.t 8)] true, none, 197120, 2, []⟩,
   ⟨(some 10), .faddr 1 (.t 3), none, 197376, 3, []⟩,
   ⟨none, .store 2 (.t 10) (.t 9), none, 197632, 4, []⟩])
 (.seq (.reg [⟨(some 11), .faddr 3 (.t 1), none, 262144, 0, []⟩,
   ⟨(some 12), .load 2 true (.t 11), none, 262400, 1, []⟩,
   ⟨(some 13), .call 90 [(.t 12)] true, none, 262656, 2, []⟩,
   ⟨(some 14), .faddr 3 (.t 3), none, 262912, 3, []⟩,
   ⟨none, .store 2 (.t 14) (.t 13), none, 263168, 4, []⟩])
 (.seq (.reg [⟨(some 15), .faddr 5 (.t 1), none, 327680, 0, []⟩,
   ⟨(some 16), .load 4 true (.t 15), none, 327936, 1, []⟩,
   ⟨(some 17), .call 25 [(.t 16)] true, none, 328192, 2, []⟩,
   ⟨(some 18), .faddr 5 (.t 3), none, 328448, 3, []⟩,
   ⟨none, .store 4 (.t 18) (.t 17), none, 328704, 4, []⟩])
 (.seq (.reg [⟨(some 19), .load 9 true (.t 3), none, 393216, 0, []⟩,
   ⟨none, .store 9 (.t 2) (.t 19), none, 393472, 1, []⟩])
 (.ret)))))))⟩
/-- loop.example/g00849/laws.toBallot -/
def F90 : F := ⟨1, 11, [.cell 2 2 true],
 .seq (.reg [⟨(some 1), .box (.t 0), none, 0, 0, []⟩,
   ⟨(some 2), .alloc [(.int .i64 0), (.int .i64 0)], none, 256, 1, []⟩])
 (.seq (.reg [⟨(some 3), .alloc [(.int .i64 0), (.int .i64 0)], none, 65536, 0, []⟩])
 (.seq (.reg [⟨(some 4), .faddr 0 (.t 1), none, 131072, 0, []⟩,
   ⟨(some 5), .load 1 false (.t 4), none, 131328, 1, []⟩,
   ⟨(some 6), .faddr 0 (.t 3), none, 131584, 2, []⟩,
   ⟨none, .store 1 (.t 6) (.t 5), none, 131840, 3, []⟩])
 (.seq (.reg [⟨(some 7), .faddr 1 (.t 1), none, 196608, 0, []⟩,
   ⟨(some 8), .load 1 false (.t 7), none, 196864, 1, []⟩,
   ⟨(some 9), .faddr 1 (.t 3), none, 197120, 2, []⟩,
   ⟨none, .store 1 (.t 9) (.t 8), none, 197376, 3, []⟩])
 (.seq (.reg [⟨(some 10), .load 2 true (.t 3), none, 262144, 0, []⟩,
   ⟨none, .store 2 (.t 2) (.t 10), none, 262400, 1, []⟩])
 (.ret)))))⟩
/-- loop.example/g00849/laws.toInt64S -/
def F91 : F := ⟨1, 22, [.t 2],
 .seq (.reg [⟨(some 2), .nil0 true 1, none, 0, 0, []⟩])
 (.seq (.reg [⟨(some 5), .mv (.t 0), none, 65536, 0, []⟩,
   ⟨(some 6), .len false (.t 5), none, 65792, 1, []⟩,
   ⟨(some 7), .mksl true 1 8 [(.int .i64 0)] (.t 6) (.t 6), none, 66048, 2, []⟩,
   ⟨(some 3), .mv (.t 7), none, 66304, 3, []⟩])
 (.seq (.seq (.reg [⟨(some 4), .mv (.k (.int .i64 0)), none, 131072, 0, []⟩])
 (.block 0 (.loop [0, 3, 4] [0, 66048]
  (.seq (.seq (.reg [⟨(some 8), .mv (.t 4), none, 196608, 0, []⟩,
    ⟨(some 9), .mv (.t 0), none, 196864, 1, []⟩,
    ⟨(some 10), .len false (.t 9), none, 197120, 2, []⟩,
    ⟨(some 11), .bin .lss (.t 8) (.t 10), none, 197376, 3, []⟩])
  (.cond (.t 11)
   (.skip)
   (.exit 0)))
  (.seq (.block 1 (.reg [⟨(some 14), .mv (.t 3), none, 327680, 0, []⟩,
    ⟨(some 15), .mv (.t 4), none, 327936, 1, []⟩,
    ⟨(some 16), .mv (.t 0), none, 328192, 2, []⟩,
    ⟨(some 17), .mv (.t 4), none, 328448, 3, []⟩,
    ⟨(some 18), .iaddr 1 (.t 16) (.t 17), none, 328704, 4, []⟩,
    ⟨(some 19), .load 1 false (.t 18), none, 328960, 5, []⟩,
    ⟨(some 20), .iaddr 1 (.t 14) (.t 15), none, 329216, 6, []⟩,
    ⟨none, .store 1 (.t 20) (.t 19), none, 329472, 7, []⟩]))
  (.reg [⟨(some 12), .mv (.t 4), none, 262144, 0, []⟩,
    ⟨(some 13), .bin .add (.t 12) (.k (.int .i64 1)), none, 262400, 1, []⟩,
    ⟨(some 4), .mv (.t 13), none, 262656, 2, []⟩]))))))
 (.seq (.reg [⟨(some 21), .mv (.t 3), none, 393216, 0, []⟩,
   ⟨(some 2), .mv (.t 21), none, 393472, 1, []⟩])
 (.ret))))⟩
/-- loop.example/g00849/laws.eqSlot -/
def F92 : F := ⟨2, 28, [.t 4],
 .seq (.reg [⟨(some 2), .box (.t 0), none, 0, 0, []⟩,
   ⟨(some 3), .box (.t 1), none, 256, 1, []⟩,
   ⟨(some 4), .mv (.k (.bool false)), none, 512, 2, []⟩])
 (.seq (.seq (.reg [⟨(some 5), .faddr 0 (.t 2), none, 65536, 0, []⟩,
   ⟨(some 6), .load 1 false (.t 5), none, 65792, 1, []⟩,
   ⟨(some 7), .faddr 0 (.t 3), none, 66048, 2, []⟩,
   ⟨(some 8), .load 1 false (.t 7), none, 66304, 3, []⟩,
   ⟨(some 9), .bin .neq (.t 6) (.t 8), none, 66560, 4, []⟩])
 (.cond (.t 9)
  (.seq (.reg [⟨(some 4), .mv (.k (.bool false)), none, 131072, 0, []⟩])
  (.ret))
  (.skip)))
 (.seq (.seq (.reg [⟨(some 10), .faddr 1 (.t 2), none, 196608, 0, []⟩,
   ⟨(some 11), .load 2 true (.t 10), none, 196864, 1, []⟩,
   ⟨(some 12), .faddr 1 (.t 3), none, 197120, 2, []⟩,
   ⟨(some 13), .load 2 true (.t 12), none, 197376, 3, []⟩,
   ⟨(some 14), .call 93 [(.t 11), (.t 13)] true, none, 197632, 4, []⟩,
   ⟨(some 15), .not (.t 14), none, 197888, 5, []⟩])
 (.cond (.t 15)
  (.seq (.reg [⟨(some 4), .mv (.k (.bool false)), none, 262144, 0, []⟩])
  (.ret))
  (.skip)))
 (.seq (.seq (.reg [⟨(some 16), .faddr 3 (.t 2), none, 327680, 0, []⟩,
   ⟨(some 17), .load 2 true (.t 16), none, 327936, 1, []⟩,
   ⟨(some 18), .faddr 3 (.t 3), none, 328192, 2, []⟩,
   ⟨(some 19), .load 2 true (.t 18), none, 328448, 3, []⟩,
   ⟨(some 20), .call 93 [(.t 17), (.t 19)] true, none, 328704, 4, []⟩,
   ⟨(some 21), .not (.t 20), none, 328960, 5, []⟩])
 (.cond (.t 21)
  (.seq (.reg [⟨(some 4), .mv (.k (.bool false)), none, 393216, 0, []⟩])
  (.ret))
  (.skip)))
 (.seq (.seq (.reg [⟨(some 22), .faddr 5 (.t 2), none, 458752, 0, []⟩,
   ⟨(some 23), .load 4 true (.t 22), none, 459008, 1, []⟩,
   ⟨(some 24), .faddr 5 (.t 3), none, 459264, 2, []⟩,
   ⟨(some 25), .load 4 true (.t 24), none, 459520, 3, []⟩,
   ⟨(some 26), .call 94 [(.t 23), (.t 25)] true, none, 459776, 4, []⟩,
   ⟨(some 27), .not (.t 26), none, 460032, 5, []⟩])
 (.cond (.t 27)
  (.seq (.reg [⟨(some 4), .mv (.k (.bool false)), none, 524288, 0, []⟩])
  (.ret))
  (.skip)))
 (.seq (.reg [⟨(some 4), .mv (.k (.bool true)), none, 589824, 0, []⟩])
 (.ret))))))⟩
/-- loop.example/g00849/laws.eqBallot -/
def F93 : F := ⟨2, 15, [.t 4],
 .seq (.reg [⟨(some 2), .box (.t 0), none, 0, 0, []⟩,
   ⟨(some 3), .box (.t 1), none, 256, 1, []⟩,
   ⟨(some 4), .mv (.k (.bool false)), none, 512, 2, []⟩])
 (.seq (.seq (.reg [⟨(some 5), .faddr 0 (.t 2), none, 65536, 0, []⟩,
   ⟨(some 6), .load 1 false (.t 5), none, 65792, 1, []⟩,
   ⟨(some 7), .faddr 0 (.t 3), none, 66048, 2, []⟩,
   ⟨(some 8), .load 1 false (.t 7), none, 66304, 3, []⟩,
   ⟨(some 9), .bin .neq (.t 6) (.t 8), none, 66560, 4, []⟩])
 (.cond (.t 9)
  (.seq (.reg [⟨(some 4), .mv (.k (.bool false)), none, 131072, 0, []⟩])
  (.ret))
  (.skip)))
 (.seq (.seq (.reg [⟨(some 10), .faddr 1 (.t 2), none, 196608, 0, []⟩,
   ⟨(some 11), .load 1 false (.t 10), none, 196864, 1, []⟩,
   ⟨(some 12), .faddr 1 (.t 3), none, 197120, 2, []⟩,
   ⟨(some 13), .load 1 false (.t 12), none, 197376, 3, []⟩,
   ⟨(some 14), .bin .neq (.t 11) (.t 13), none, 197632, 4, []⟩])
 (.cond (.t 14)
  (.seq (.reg [⟨(some 4), .mv (.k (.bool false)), none, 262144, 0, []⟩])
  (.ret))
  (.skip)))
 (.seq (.reg [⟨(some 4), .mv (.k (.bool true)), none, 327680, 0, []⟩])
 (.ret))))⟩
/-- loop.example/g00849/laws.eqInc -/
def F94 : F := ⟨2, 25, [.t 4],
 .seq (.reg [⟨(some 2), .box (.t 0), none, 0, 0, []⟩,
   ⟨(some 3), .box (.t 1), none, 256, 1, []⟩,
   ⟨(some 4), .mv (.k (.bool false)), none, 512, 2, []⟩])
 (.seq (.seq (.reg [⟨(some 5), .faddr 0 (.t 2), none, 65536, 0, []⟩,
   ⟨(some 6), .load 1 false (.t 5), none, 65792, 1, []⟩,
   ⟨(some 7), .faddr 0 (.t 3), none, 66048, 2, []⟩,
   ⟨(some 8), .load 1 false (.t 7), none, 66304, 3, []⟩,
   ⟨(some 9), .bin .neq (.t 6) (.t 8), none, 66560, 4, []⟩])
 (.cond (.t 9)
  (.seq (.reg [⟨(some 4), .mv (.k (.bool false)), none, 131072, 0, []⟩])
  (.ret))
  (.skip)))
 (.seq (.seq (.reg [⟨(some 10), .faddr 1 (.t 2), none, 196608, 0, []⟩,
   ⟨(some 11), .load 1 false (.t 10), none, 196864, 1, []⟩,
   ⟨(some 12), .faddr 1 (.t 3), none, 197120, 2, []⟩,
   ⟨(some 13), .load 1 false (.t 12), none, 197376, 3, []⟩,
   ⟨(some 14), .bin .neq (.t 11) (.t 13), none, 197632, 4, []⟩])
 (.cond (.t 14)
  (.seq (.reg [⟨(some 4), .mv (.k (.bool false)), none, 262144, 0, []⟩])
  (.ret))
  (.skip)))
 (.seq (.seq (.reg [⟨(some 15), .faddr 2 (.t 2), none, 327680, 0, []⟩,
   ⟨(some 16), .load 1 false (.t 15), none, 327936, 1, []⟩,
   ⟨(some 17), .faddr 2 (.t 3), none, 328192, 2, []⟩,
   ⟨(some 18), .load 1 false (.t 17), none, 328448, 3, []⟩,
   ⟨(some 19), .bin .neq (.t 16) (.t 18), none, 328704, 4, []⟩])
 (.cond (.t 19)
  (.seq (.reg [⟨(some 4), .mv (.k (.bool false)), none, 393216, 0, []⟩])
  (.ret))
  (.skip)))
 (.seq (.seq (.reg [⟨(some 20), .faddr 3 (.t 2), none, 458752, 0, []⟩,
   ⟨(some 21), .load 1 false (.t 20), none, 459008, 1, []⟩,
   ⟨(some 22), .faddr 3 (.t 3), none, 459264, 2, []⟩,
   ⟨(some 23), .load 1 false (.t 22), none, 459520, 3, []⟩,
   ⟨(some 24), .bin .neq (.t 21) (.t 23), none, 459776, 4, []⟩])
 (.cond (.t 24)
  (.seq (.reg [⟨(some 4), .mv (.k (.bool false)), none, 524288, 0, []⟩])
  (.ret))
  (.skip)))
 (.seq (.reg [⟨(some 4), .mv (.k (.bool true)), none, 589824, 0, []⟩])
 (.ret))))))⟩
/-- loop.example/g00849/laws.eqInt64S -/
def F95 : F := ⟨2, 26, [.t 4],
 .seq (.reg [⟨(some 4), .mv (.k (.bool false)), none, 0, 0, []⟩])
 (.seq (.seq (.reg [⟨(some 6), .mv (.t 0), none, 65536, 0, []⟩,
   ⟨(some 7), .len false (.t 6), none, 65792, 1, []⟩,
   ⟨(some 8), .mv (.t 1), none, 66048, 2, []⟩,
   ⟨(some 9), .len false (.t 8), none, 66304, 3, []⟩,
   ⟨(some 10), .bin .neq (.t 7) (.t 9), none, 66560, 4, []⟩])
 (.cond (.t 10)
  (.seq (.reg [⟨(some 4), .mv (.k (.bool false)), none, 131072, 0, []⟩])
  (.ret))
  (.skip)))
 (.seq (.seq (.reg [⟨(some 5), .mv (.k (.int .i64 0)), none, 196608, 0, []⟩])
 (.block 0 (.loop [0, 1, 5] []
  (.seq (.seq (.reg [⟨(some 11), .mv (.t 5), none, 262144, 0, []⟩,
    ⟨(some 12), .mv (.t 0), none, 262400, 1, []⟩,
    ⟨(some 13), .len false (.t 12), none, 262656, 2, []⟩,
    ⟨(some 14), .bin .lss (.t 11) (.t 13), none, 262912, 3, []⟩])
  (.cond (.t 14)
   (.skip)
   (.exit 0)))
  (.seq (.block 1 (.seq (.reg [⟨(some 17), .mv (.t 0), none, 393216, 0, []⟩,
    ⟨(some 18), .mv (.t 5), none, 393472, 1, []⟩,
    ⟨(some 19), .iaddr 1 (.t 17) (.t 18), none, 393728, 2, []⟩,
    ⟨(some 20), .load 1 false (.t 19), none, 393984, 3, []⟩,
    ⟨(some 21), .mv (.t 1), none, 394240, 4, []⟩,
    ⟨(some 22), .mv (.t 5), none, 394496, 5, []⟩,
    ⟨(some 23), .iaddr 1 (.t 21) (.t 22), none, 394752, 6, []⟩,
    ⟨(some 24), .load 1 false (.t 23), none, 395008, 7, []⟩,
    ⟨(some 25), .bin .neq (.t 20) (.t 24), none, 395264, 8, []⟩])
  (.cond (.t 25)
   (.seq (.reg [⟨(some 4), .mv (.k (.bool false)), none, 458752, 0, []⟩])
   (.ret))
   (.skip))))
  (.reg [⟨(some 15), .mv (.t 5), none, 327680, 0, []⟩,
    ⟨(some 16), .bin .add (.t 15) (.k (.int .i64 1)), none, 327936, 1, []⟩,
    ⟨(some 5), .mv (.t 16), none, 328192, 2, []⟩]))))))
 (.seq (.reg [⟨(some 4), .mv (.k (.bool true)), none, 524288, 0, []⟩])
 (.ret))))⟩
/-- loop.example/g00849/laws.markInt64S -/
def F96 : F := ⟨2, 19, [.t 4],
 .seq (.reg [⟨(some 4), .mv (.k (.int .i64 0)), none, 0, 0, []⟩])
 (.seq (.seq (.reg [⟨(some 5), .mv (.k (.int .i64 0)), none, 65536, 0, []⟩])
 (.block 0 (.loop [0, 1, 5] []
  (.seq (.seq (.reg [⟨(some 6), .mv (.t 5), none, 131072, 0, []⟩,
    ⟨(some 7), .mv (.t 0), none, 131328, 1, []⟩,
    ⟨(some 8), .len false (.t 7), none, 131584, 2, []⟩,
    ⟨(some 9), .bin .lss (.t 6) (.t 8), none, 131840, 3, []⟩])
  (.cond (.t 9)
   (.skip)
   (.exit 0)))
  (.seq (.block 1 (.seq (.reg [⟨(some 12), .mv (.t 0), none, 262144, 0, []⟩,
    ⟨(some 13), .mv (.t 5), none, 262400, 1, []⟩,
    ⟨(some 14), .mv (.t 1), none, 262656, 2, []⟩,
    ⟨(some 15), .iaddr 1 (.t 12) (.t 13), none, 262912, 3, []⟩,
    ⟨none, .store 1 (.t 15) (.t 14), none, 263168, 4, []⟩])
  (.reg [⟨(some 16), .mv (.t 1), none, 327680, 0, []⟩,
    ⟨(some 17), .bin .add (.t 16) (.k (.int .i64 1)), none, 327936, 1, []⟩,
    ⟨(some 1), .mv (.t 17), none, 328192, 2, []⟩])))
  (.reg [⟨(some 10), .mv (.t 5), none, 196608, 0, []⟩,
    ⟨(some 11), .bin .add (.t 10) (.k (.int .i64 1)), none, 196864, 1, []⟩,
    ⟨(some 5), .mv (.t 11), none, 197120, 2, []⟩]))))))
 (.seq (.reg [⟨(some 18), .mv (.t 1), none, 393216, 0, []⟩,
   ⟨(some 4), .mv (.t 18), none, 393472, 1, []⟩])
 (.ret)))⟩
/-- loop.example/g00849/laws.heldInt64S -/
def F97 : F := ⟨2, 21, [.t 4],
 .seq (.reg [⟨(some 4), .mv (.k (.int .i64 0)), none, 0, 0, []⟩])
 (.seq (.seq (.reg [⟨(some 5), .mv (.k (.int .i64 0)), none, 65536, 0, []⟩])
 (.block 0 (.loop [0, 1, 5] []
  (.seq (.seq (.reg [⟨(some 6), .mv (.t 5), none, 131072, 0, []⟩,
    ⟨(some 7), .mv (.t 0), none, 131328, 1, []⟩,
    ⟨(some 8), .len false (.t 7), none, 131584, 2, []⟩,
    ⟨(some 9), .bin .lss (.t 6) (.t 8), none, 131840, 3, []⟩])
  (.cond (.t 9)
   (.skip)
   (.exit 0)))
  (.seq (.block 1 (.seq (.seq (.reg [⟨(some 12), .mv (.t 0), none, 262144, 0, []⟩,
    ⟨(some 13), .mv (.t 5), none, 262400, 1, []⟩,
    ⟨(some 14), .iaddr 1 (.t 12) (.t 13), none, 262656, 2, []⟩,
    ⟨(some 15), .load 1 false (.t 14), none, 262912, 3, []⟩,
    ⟨(some 16), .mv (.t 1), none, 263168, 4, []⟩,
    ⟨(some 17), .bin .neq (.t 15) (.t 16), none, 263424, 5, []⟩])
  (.cond (.t 17)
   (.seq (.reg [⟨(some 4), .mv (.k (.int .i64 (-1))), none, 327680, 0, []⟩])
   (.ret))
   (.skip)))
  (.reg [⟨(some 18), .mv (.t 1), none, 393216, 0, []⟩,
    ⟨(some 19), .bin .add (.t 18) (.k (.int .i64 1)), none, 393472, 1, []⟩,
    ⟨(some 1), .mv (.t 19), none, 393728, 2, []⟩])))
  (.reg [⟨(some 10), .mv (.t 5), none, 196608, 0, []⟩,
    ⟨(some 11), .bin .add (.t 10) (.k (.int .i64 1)), none, 196864, 1, []⟩,
    ⟨(some 5), .mv (.t 11), none, 197120, 2, []⟩]))))))
 (.seq (.reg [⟨(some 20), .mv (.t 1), none, 458752, 0, []⟩,
   ⟨(some 4), .mv (.t 20), none, 459008, 1, []⟩])
 (.ret)))⟩
/-- loop.example/g00849/spec.l11Inc -/
def F98 : F := ⟨1, 43, [.t 2],
 .seq (.reg [⟨(some 1), .box (.t 0), none, 0, 0, []⟩,
   ⟨(some 2), .mv (.k (.bool false)), none, 256, 1, []⟩])
 (.seq (.seq (.reg [⟨(some 3), .faddr 0 (.t 1), none, 65536, 0, []⟩,
   ⟨(some 4), .load 1 false (.t 3), none, 65792, 1, []⟩,
   ⟨(some 5), .call 34 [(.t 4), (.k (.int .i64 2)), (.k (.int .i64 60))] true, none, 66048, 2, []⟩,
   ⟨(some 6), .not (.t 5), none, 66304, 3, []⟩,
   ⟨(some 7), .mv (.t 6), none, 66560, 4, []⟩,
   ⟨(some 8), .faddr 1 (.t 1), (some (some 7, false)), 66816, 5, []⟩,
   ⟨(some 9), .load 1 false (.t 8), (some (some 7, false)), 67072, 6, []⟩,
   ⟨(some 10), .call 34 [(.t 9), (.k (.int .i64 1)), (.k (.int .i64 6))] true, (some (some 7, false)), 67328, 7, []⟩,
   ⟨(some 11), .not (.t 10), (some (some 7, false)), 67584, 8, []⟩,
   ⟨(some 12), .pick (.t 7) (.k (.bool true)) (.t 11), none, 67840, 9, []⟩])
 (.cond (.t 12)
  (.seq (.reg [⟨(some 2), .mv (.k (.bool false)), none, 131072, 0, []⟩])
  (.ret))
  (.skip)))
 (.seq (.seq (.reg [⟨(some 13), .faddr 1 (.t 1), none, 196608, 0, []⟩,
   ⟨(some 14), .load 1 false (.t 13), none, 196864, 1, []⟩])
 (.block 0 (.seq (.reg [⟨(some 16), .bin .eql (.t 14) (.k (.int .i64 6)), none, 262144, 0, []⟩,
   ⟨(some 15), .mv (.t 16), none, 262400, 1, []⟩])
 (.cond (.t 15)
  (.seq (.reg [⟨(some 17), .faddr 2 (.t 1), none, 327680, 0, []⟩,
    ⟨(some 18), .load 1 false (.t 17), none, 327936, 1, []⟩,
    ⟨(some 19), .bin .eql (.t 18) (.k (.int .i64 0)), none, 328192, 2, []⟩,
    ⟨(some 20), .mv (.t 19), none, 328448, 3, []⟩,
    ⟨(some 21), .faddr 3 (.t 1), (some (some 20, true)), 328704, 4, []⟩,
    ⟨(some 22), .load 1 false (.t 21), (some (some 20, true)), 328960, 5, []⟩,
    ⟨(some 23), .bin .eql (.t 22) (.k (.int .i64 0)), (some (some 20, true)), 329216, 6, []⟩,
    ⟨(some 24), .pick (.t 20) (.t 23) (.k (.bool false)), none, 329472, 7, []⟩,
    ⟨(some 2), .mv (.t 24), none, 329728, 8, []⟩])
  (.ret))
  (.seq (.reg [⟨(some 26), .bin .eql (.t 14) (.k (.int .i64 5)), none, 393216, 0, []⟩,
    ⟨(some 25), .mv (.t 26), none, 393472, 1, []⟩])
  (.cond (.t 25)
   (.seq (.reg [⟨(some 27), .faddr 2 (.t 1), none, 458752, 0, []⟩,
     ⟨(some 28), .load 1 false (.t 27), none, 459008, 1, []⟩,
     ⟨(some 29), .call 34 [(.t 28), (.k (.int .i64 0)), (.k (.int .i64 15))] true, none, 459264, 2, []⟩,
     ⟨(some 30), .mv (.t 29), none, 459520, 3, []⟩,
     ⟨(some 31), .faddr 3 (.t 1), (some (some 30, true)), 459776, 4, []⟩,
     ⟨(some 32), .load 1 false (.t 31), (some (some 30, true)), 460032, 5, []⟩,
     ⟨(some 33), .call 34 [(.t 32), (.k (.int .i64 0)), (.k (.int .i64 8))] true, (some (some 30, true)), 460288, 6, []⟩,
     ⟨(some 34), .pick (.t 30) (.t 33) (.k (.bool false)), none, 460544, 7, []⟩,
     ⟨(some 2), .mv (.t 34), none, 460800, 8, []⟩])
   (.ret))
   (.skip)))))))
 (.seq (.reg [⟨(some 35), .faddr 2 (.t 1), none, 524288, 0, []⟩,
   ⟨(some 36), .load 1 false (.t 35), none, 524544, 1, []⟩,
   ⟨(some 37), .call 34 [(.t 36), (.k (.int .i64 0)), (.k (.int .i64 15))] true, none, 524800, 2, []⟩,
   ⟨(some 38), .mv (.t 37), none, 525056, 3, []⟩,
   ⟨(some 39), .faddr 3 (.t 1), (some (some 38, true)), 525312, 4, []⟩,
   ⟨(some 40), .load 1 false (.t 39), (some (some 38, true)), 525568, 5, []⟩,
   ⟨(some 41), .bin .eql (.t 40) (.k (.int .i64 0)), (some (some 38, true)), 525824, 6, []⟩,
   ⟨(some 42), .pick (.t 38) (.t 41) (.k (.bool false)), none, 526080, 7, []⟩,
   ⟨(some 2), .mv (.t 42), none, 526336, 8, []⟩])
 (.ret))))⟩
/-- (loop.example/g00849/impl.Try).isZero -/
def F99 : F := ⟨1, 41, [.t 2],
 .seq (.reg [⟨(some 1), .box (.t 0), none, 0, 0, []⟩,
   ⟨(some 2), .mv (.k (.bool false)), none, 256, 1, []⟩])
 (.seq (.reg [⟨(some 3), .faddr 0 (.t 1), none, 65536, 0, []⟩,
   ⟨(some 4), .load 1 false (.t 3), none, 65792, 1, []⟩,
   ⟨(some 5), .bin .eql (.t 4) (.k (.int .i64 0)), none, 66048, 2, []⟩,
   ⟨(some 6), .mv (.t 5), none, 66304, 3, []⟩,
   ⟨(some 7), .faddr 1 (.t 1), (some (some 6, true)), 66560, 4, []⟩,
   ⟨(some 8), .load 2 true (.t 7), (some (some 6, true)), 66816, 5, []⟩,
   ⟨(some 9), .build [(.int .i64 0), (.int .i64 0)] [], (some (some 6, true)), 67072, 6, []⟩,
   ⟨(some 10), .eqv false true [.i, .i] (.t 8) (.t 9), (some (some 6, true)), 67328, 7, []⟩,
   ⟨(some 11), .pick (.t 6) (.t 10) (.k (.bool false)), none, 67584, 8, []⟩,
   ⟨(some 12), .mv (.t 11), none, 67840, 9, []⟩,
   ⟨(some 13), .faddr 3 (.t 1), (some (some 12, true)), 68096, 10, []⟩,
   ⟨(some 14), .load 4 true (.t 13), (some (some 12, true)), 68352, 11, []⟩,
   ⟨(some 15), .build [(.int .i64 0), (.int .i64 0), (.int .i64 0), (.int .i64 0)] [], (some (some 12, true)), 68608, 12, []⟩,
   ⟨(some 16), .eqv false true [.i, .i, .i, .i] (.t 14) (.t 15), (some (some 12, true)), 68864, 13, []⟩,
   ⟨(some 17), .pick (.t 12) (.t 16) (.k (.bool false)), none, 69120, 14, []⟩,
   ⟨(some 18), .mv (.t 17), none, 69376, 15, []⟩,
   ⟨(some 19), .faddr 7 (.t 1), (some (some 18, true)), 69632, 16, []⟩,
   ⟨(some 20), .load 2 true (.t 19), (some (some 18, true)), 69888, 17, []⟩,
   ⟨(some 21), .build [(.int .i64 0), (.int .i64 0)] [], (some (some 18, true)), 70144, 18, []⟩,
   ⟨(some 22), .eqv false true [.i, .i] (.t 20) (.t 21), (some (some 18, true)), 70400, 19, []⟩,
   ⟨(some 23), .pick (.t 18) (.t 22) (.k (.bool false)), none, 70656, 20, []⟩,
   ⟨(some 24), .mv (.t 23), none, 70912, 21, []⟩,
   ⟨(some 25), .faddr 9 (.t 1), (some (some 24, true)), 71168, 22, []⟩,
   ⟨(some 26), .load 1 false (.t 25), (some (some 24, true)), 71424, 23, []⟩,
   ⟨(some 27), .len false (.t 26), (some (some 24, true)), 71680, 24, []⟩,
   ⟨(some 28), .bin .eql (.t 27) (.k (.int .i64 0)), (some (some 24, true)), 71936, 25, []⟩,
   ⟨(some 29), .pick (.t 24) (.t 28) (.k (.bool false)), none, 72192, 26, []⟩,
   ⟨(some 30), .mv (.t 29), none, 72448, 27, []⟩,
   ⟨(some 31), .faddr 10 (.t 1), (some (some 30, true)), 72704, 28, []⟩,
   ⟨(some 32), .load 1 false (.t 31), (some (some 30, true)), 72960, 29, []⟩,
   ⟨(some 33), .len false (.t 32), (some (some 30, true)), 73216, 30, []⟩,
   ⟨(some 34), .bin .eql (.t 33) (.k (.int .i64 0)), (some (some 30, true)), 73472, 31, []⟩,
   ⟨(some 35), .pick (.t 30) (.t 34) (.k (.bool false)), none, 73728, 32, []⟩,
   ⟨(some 36), .mv (.t 35), none, 73984, 33, []⟩,
   ⟨(some 37), .faddr 11 (.t 1), (some (some 36, true)), 74240, 34, []⟩,
   ⟨(some 38), .load 1 false (.t 37), (some (some 36, true)), 74496, 35, []⟩,
   ⟨(some 39), .not (.t 38), (some (some 36, true)), 74752, 36, []⟩,
   ⟨(some 40), .pick (.t 36) (.t 39) (.k (.bool false)), none, 75008, 37, []⟩,
   ⟨(some 2), .mv (.t 40), none, 75264, 38, []⟩])
 (.ret))⟩
/-- (loop.example/g00849/impl.Mon).idsOk -/
def F100 : F := ⟨2, 14, [.t 4],
 .seq (.reg [⟨(some 2), .box (.t 0), none, 0, 0, []⟩,
   ⟨(some 4), .mv (.k (.bool false)), none, 256, 1, []⟩])
 (.seq (.reg [⟨(some 5), .mv (.t 1), none, 65536, 0, []⟩,
   ⟨(some 6), .call 107 [(.t 5)] true, none, 65792, 1, []⟩,
   ⟨(some 7), .mv (.t 6), none, 66048, 2, []⟩,
   ⟨(some 8), .mv (.t 1), (some (some 7, true)), 66304, 3, []⟩,
   ⟨(some 9), .faddr 1 (.t 2), (some (some 7, true)), 66560, 4, []⟩,
   ⟨(some 10), .load 1 false (.t 9), (some (some 7, true)), 66816, 5, []⟩,
   ⟨(some 11), .bin .sub (.t 10) (.k (.int .i64 1)), (some (some 7, true)), 67072, 6, []⟩,
   ⟨(some 12), .call 108 [(.t 8), (.k (.int .i64 0)), (.t 11)] true, (some (some 7, true)), 67328, 7, []⟩,
   ⟨(some 13), .pick (.t 7) (.t 12) (.k (.bool false)), none, 67584, 8, []⟩,
   ⟨(some 4), .mv (.t 13), none, 67840, 9, []⟩])
 (.ret))⟩
/-- cmp.Or[int] -/
def F101 : F := ⟨1, 18, [.t 2],
 .seq (.reg [⟨(some 2), .mv (.k (.int .i64 0)), none, 0, 0, []⟩])
 (.seq (.reg [⟨(some 3), .mv (.k (.int .i64 0)), none, 65536, 0, []⟩])
 (.seq (.seq (.reg [⟨(some 6), .mv (.t 0), none, 131072, 0, []⟩,
   ⟨(some 7), .len false (.t 6), none, 131328, 1, []⟩,
   ⟨(some 8), .mv (.k (.int .i64 0)), none, 131584, 2, []⟩])
 (.block 0 (.loop [3, 6, 7, 8] []
  (.seq (.reg [⟨(some 9), .bin .lss (.t 8) (.t 7), none, 196608, 0, []⟩])
  (.seq (.cond (.t 9)
   (.skip)
   (.exit 0))
  (.seq (.block 1 (.seq (.reg [⟨(some 10), .iaddr 1 (.t 6) (.t 8), none, 262144, 0, []⟩,
    ⟨(some 11), .load 1 false (.t 10), none, 262400, 1, []⟩,
    ⟨(some 5), .mv (.t 11), none, 262656, 2, []⟩])
  (.seq (.reg [⟨(some 12), .mv (.t 5), none, 327680, 0, []⟩,
    ⟨(some 13), .mv (.t 3), none, 327936, 1, []⟩,
    ⟨(some 14), .bin .neq (.t 12) (.t 13), none, 328192, 2, []⟩])
  (.cond (.t 14)
   (.seq (.reg [⟨(some 15), .mv (.t 5), none, 393216, 0, []⟩,
     ⟨(some 2), .mv (.t 15), none, 393472, 1, []⟩])
   (.ret))
   (.skip)))))
  (.reg [⟨(some 16), .bin .add (.t 8) (.k (.int .i64 1)), none, 458752, 0, []⟩,
    ⟨(some 8), .mv (.t 16), none, 459008, 1, []⟩])))))))
 (.seq (.reg [⟨(some 17), .mv (.t 3), none, 524288, 0, []⟩,
   ⟨(some 2), .mv (.t 17), none, 524544, 1, []⟩])
 (.ret))))⟩
/-- cmp.isNaN[int64] -/
def F102 : F := ⟨1, 6, [.t 2],
 .seq (.reg [⟨(some 2), .mv (.k (.bool false)), none, 0, 0, []⟩])
 (.seq (.reg [⟨(some 3), .mv (.t 0), none, 65536, 0, []⟩,
   ⟨(some 4), .mv (.t 0), none, 65792, 1, []⟩,
   ⟨(some 5), .bin .neq (.t 3) (.t 4), none, 66048, 2, []⟩,
   ⟨(some 2), .mv (.t 5), none, 66304, 3, []⟩])
 (.ret))⟩
/-- loop.example/g00849/impl.increasing -/
def F107 : F := ⟨1, 20, [.t 2],
 .seq (.reg [⟨(some 2), .mv (.k (.bool false)), none, 0, 0, []⟩])
 (.seq (.seq (.reg [⟨(some 3), .mv (.k (.int .i64 1)), none, 65536, 0, []⟩])
 (.block 0 (.loop [0, 3] []
  (.seq (.seq (.reg [⟨(some 4), .mv (.t 3), none, 131072, 0, []⟩,
    ⟨(some 5), .mv (.t 0), none, 131328, 1, []⟩,
    ⟨(some 6), .len false (.t 5), none, 131584, 2, []⟩,
    ⟨(some 7), .bin .lss (.t 4) (.t 6), none, 131840, 3, []⟩])
  (.cond (.t 7)
   (.skip)
   (.exit 0)))
  (.seq (.block 1 (.seq (.reg [⟨(some 10), .mv (.t 0), none, 262144, 0, []⟩,
    ⟨(some 11), .mv (.t 3), none, 262400, 1, []⟩,
    ⟨(some 12), .iaddr 1 (.t 10) (.t 11), none, 262656, 2, []⟩,
    ⟨(some 13), .load 1 false (.t 12), none, 262912, 3, []⟩,
    ⟨(some 14), .mv (.t 0), none, 263168, 4, []⟩,
    ⟨(some 15), .mv (.t 3), none, 263424, 5, []⟩,
    ⟨(some 16), .bin .sub (.t 15) (.k (.int .i64 1)), none, 263680, 6, []⟩,
    ⟨(some 17), .iaddr 1 (.t 14) (.t 16), none, 263936, 7, []⟩,
    ⟨(some 18), .load 1 false (.t 17), none, 264192, 8, []⟩,
    ⟨(some 19), .bin .leq (.t 13) (.t 18), none, 264448, 9, []⟩])
  (.cond (.t 19)
   (.seq (.reg [⟨(some 2), .mv (.k (.bool false)), none, 327680, 0, []⟩])
   (.ret))
   (.skip))))
  (.reg [⟨(some 8), .mv (.t 3), none, 196608, 0, []⟩,
    ⟨(some 9), .bin .add (.t 8) (.k (.int .i64 1)), none, 196864, 1, []⟩,
    ⟨(some 3), .mv (.t 9), none, 197120, 2, []⟩]))))))
 (.seq (.reg [⟨(some 2), .mv (.k (.bool true)), none, 393216, 0, []⟩])
 (.ret)))⟩
/-- loop.example/g00849/impl.allBetween -/
def F108 : F := ⟨3, 11, [.t 6],
 .seq (.reg [⟨(some 4), .box (.t 1), none, 0, 0, []⟩,
   ⟨(some 5), .box (.t 2), none, 256, 1, []⟩,
   ⟨(some 6), .mv (.k (.bool false)), none, 512, 2, []⟩])
 (.seq (.reg [⟨(some 7), .mv (.t 0), none, 65536, 0, []⟩,
   ⟨(some 8), .mkf 114 [(.t 4), (.t 5)], none, 65792, 1, []⟩,
   ⟨(some 9), .call 113 [(.t 7), (.t 8)] true, none, 66048, 2, []⟩,
   ⟨(some 10), .not (.t 9), none, 66304, 3, []⟩,
   ⟨(some 6), .mv (.t 10), none, 66560, 4, []⟩])
 (.ret))⟩
/-- slices.ContainsFunc[[]int64,int64] -/
def F113 : F := ⟨2, 9, [.t 4],
 .seq (.reg [⟨(some 4), .mv (.k (.bool false)), none, 0, 0, []⟩])
 (.seq (.reg [⟨(some 5), .mv (.t 0), none, 65536, 0, []⟩,
   ⟨(some 6), .mv (.t 1), none, 65792, 1, []⟩,
   ⟨(some 7), .call 120 [(.t 5), (.t 6)] true, none, 66048, 2, []⟩,
   ⟨(some 8), .bin .geq (.t 7) (.k (.int .i64 0)), none, 66304, 3, []⟩,
   ⟨(some 4), .mv (.t 8), none, 66560, 4, []⟩])
 (.ret))⟩
/-- loop.example/g00849/impl.allBetween$1 -/
def F114 : F := ⟨3, 10, [.t 4],
 .seq (.reg [⟨(some 4), .mv (.k (.bool false)), none, 0, 0, []⟩])
 (.seq (.reg [⟨(some 5), .mv (.t 0), none, 65536, 0, []⟩,
   ⟨(some 6), .load 1 false (.t 1), none, 65792, 1, []⟩,
   ⟨(some 7), .load 1 false (.t 2), none, 66048, 2, []⟩,
   ⟨(some 8), .call 41 [(.t 5), (.t 6), (.t 7)] true, none, 66304, 3, []⟩,
   ⟨(some 9), .not (.t 8), none, 66560, 4, []⟩,
   ⟨(some 4), .mv (.t 9), none, 66816, 5, []⟩])
 (.ret))⟩
/-- slices.IndexFunc[[]int64,int64] -/
def F120 : F := ⟨2, 19, [.t 4],
 .seq (.reg [⟨(some 4), .mv (.k (.int .i64 0)), none, 0, 0, []⟩])
 (.seq (.seq (.reg [⟨(some 6), .mv (.t 0), none, 65536, 0, []⟩,
   ⟨(some 7), .len false (.t 6), none, 65792, 1, []⟩,
   ⟨(some 8), .mv (.k (.int .i64 0)), none, 66048, 2, []⟩])
 (.block 0 (.loop [0, 1, 7, 8] []
  (.seq (.reg [⟨(some 9), .bin .lss (.t 8) (.t 7), none, 131072, 0, []⟩])
  (.seq (.cond (.t 9)
   (.skip)
   (.exit 0))
  (.seq (.block 1 (.seq (.reg [⟨(some 10), .mv (.t 8), none, 196608, 0, []⟩,
    ⟨(some 5), .mv (.t 10), none, 196864, 1, []⟩])
  (.seq (.reg [⟨(some 11), .mv (.t 1), none, 262144, 0, []⟩,
    ⟨(some 12), .mv (.t 0), none, 262400, 1, []⟩,
    ⟨(some 13), .mv (.t 5), none, 262656, 2, []⟩,
    ⟨(some 14), .iaddr 1 (.t 12) (.t 13), none, 262912, 3, []⟩,
    ⟨(some 15), .load 1 false (.t 14), none, 263168, 4, []⟩,
    ⟨(some 16), .callv (.t 11) [(.t 15)] true, none, 263424, 5, []⟩])
  (.cond (.t 16)
   (.seq (.reg [⟨(some 17), .mv (.t 5), none, 327680, 0, []⟩,
     ⟨(some 4), .mv (.t 17), none, 327936, 1, []⟩])
   (.ret))
   (.skip)))))
  (.reg [⟨(some 18), .bin .add (.t 8) (.k (.int .i64 1)), none, 393216, 0, []⟩,
    ⟨(some 8), .mv (.t 18), none, 393472, 1, []⟩])))))))
 (.seq (.reg [⟨(some 4), .mv (.k (.int .i64 (-1))), none, 458752, 0, []⟩])
 (.ret)))⟩
def fns : Nat → Option F
  | 6 => some F6
  | 14 => some F14
  | 17 => some F17
  | 18 => some F18
  | 19 => some F19
  | 20 => some F20
  | 21 => some F21
  | 22 => some F22
  | 23 => some F23
  | 25 => some F25
  | 32 => some F32
  | 33 => some F33
  | 34 => some F34
  | 35 => some F35
  | 36 => some F36
  | 37 => some F37
  | 38 => some F38
  | 39 => some F39
  | 40 => some F40
  | 41 => some F41
  | 42 => some F42
  | 43 => some F43
  | 51 => some F51
  | 52 => some F52
  | 53 => some F53
  | 54 => some F54
  | 55 => some F55
  | 56 => some F56
  | 57 => some F57
  | 58 => some F58
  | 59 => some F59
  | 60 => some F60
  | 61 => some F61
  | 62 => some F62
  | 67 => some F67
  | 68 => some F68
  | 69 => some F69
  | 70 => some F70
  | 71 => some F71
  | 72 => some F72
  | 73 => some F73
  | 74 => some F74
  | 75 => some F75
  | 78 => some F78
  | 80 => some F80
  | 81 => some F81
  | 82 => some F82
  | 83 => some F83
  | 87 => some F87
  | 88 => some F88
  | 89 => some F89
  | 90 => some F90
  | 91 => some F91
  | 92 => some F92
  | 93 => some F93
  | 94 => some F94
  | 95 => some F95
  | 96 => some F96
  | 97 => some F97
  | 98 => some F98
  | 99 => some F99
  | 100 => some F100
  | 101 => some F101
  | 102 => some F102
  | 107 => some F107
  | 108 => some F108
  | 113 => some F113
  | 114 => some F114
  | 120 => some F120
  | _ => none
def code : Prog := ⟨fns, md, fun _ => none⟩
theorem fn6 : code.fn 6 = some F6 := rfl
theorem fn14 : code.fn 14 = some F14 := rfl
theorem fn17 : code.fn 17 = some F17 := rfl
theorem fn18 : code.fn 18 = some F18 := rfl
theorem fn19 : code.fn 19 = some F19 := rfl
theorem fn20 : code.fn 20 = some F20 := rfl
theorem fn21 : code.fn 21 = some F21 := rfl
theorem fn22 : code.fn 22 = some F22 := rfl
theorem fn23 : code.fn 23 = some F23 := rfl
theorem fn25 : code.fn 25 = some F25 := rfl
theorem fn32 : code.fn 32 = some F32 := rfl
theorem fn33 : code.fn 33 = some F33 := rfl
theorem fn34 : code.fn 34 = some F34 := rfl
theorem fn35 : code.fn 35 = some F35 := rfl
theorem fn36 : code.fn 36 = some F36 := rfl
theorem fn37 : code.fn 37 = some F37 := rfl
theorem fn38 : code.fn 38 = some F38 := rfl
theorem fn39 : code.fn 39 = some F39 := rfl
theorem fn40 : code.fn 40 = some F40 := rfl
theorem fn41 : code.fn 41 = some F41 := rfl
theorem fn42 : code.fn 42 = some F42 := rfl
theorem fn43 : code.fn 43 = some F43 := rfl
theorem fn51 : code.fn 51 = some F51 := rfl
theorem fn52 : code.fn 52 = some F52 := rfl
theorem fn53 : code.fn 53 = some F53 := rfl
theorem fn54 : code.fn 54 = some F54 := rfl
theorem fn55 : code.fn 55 = some F55 := rfl
theorem fn56 : code.fn 56 = some F56 := rfl
theorem fn57 : code.fn 57 = some F57 := rfl
theorem fn58 : code.fn 58 = some F58 := rfl
theorem fn59 : code.fn 59 = some F59 := rfl
theorem fn60 : code.fn 60 = some F60 := rfl
theorem fn61 : code.fn 61 = some F61 := rfl
theorem fn62 : code.fn 62 = some F62 := rfl
theorem fn67 : code.fn 67 = some F67 := rfl
theorem fn68 : code.fn 68 = some F68 := rfl
theorem fn69 : code.fn 69 = some F69 := rfl
theorem fn70 : code.fn 70 = some F70 := rfl
theorem fn71 : code.fn 71 = some F71 := rfl
theorem fn72 : code.fn 72 = some F72 := rfl
theorem fn73 : code.fn 73 = some F73 := rfl
theorem fn74 : code.fn 74 = some F74 := rfl
theorem fn75 : code.fn 75 = some F75 := rfl
theorem fn78 : code.fn 78 = some F78 := rfl
theorem fn80 : code.fn 80 = some F80 := rfl
theorem fn81 : code.fn 81 = some F81 := rfl
theorem fn82 : code.fn 82 = some F82 := rfl
theorem fn83 : code.fn 83 = some F83 := rfl
theorem fn87 : code.fn 87 = some F87 := rfl
theorem fn88 : code.fn 88 = some F88 := rfl
theorem fn89 : code.fn 89 = some F89 := rfl
theorem fn90 : code.fn 90 = some F90 := rfl
theorem fn91 : code.fn 91 = some F91 := rfl
theorem fn92 : code.fn 92 = some F92 := rfl
theorem fn93 : code.fn 93 = some F93 := rfl
theorem fn94 : code.fn 94 = some F94 := rfl
theorem fn95 : code.fn 95 = some F95 := rfl
theorem fn96 : code.fn 96 = some F96 := rfl
theorem fn97 : code.fn 97 = some F97 := rfl
theorem fn98 : code.fn 98 = some F98 := rfl
theorem fn99 : code.fn 99 = some F99 := rfl
theorem fn100 : code.fn 100 = some F100 := rfl
theorem fn101 : code.fn 101 = some F101 := rfl
theorem fn102 : code.fn 102 = some F102 := rfl
theorem fn107 : code.fn 107 = some F107 := rfl
theorem fn108 : code.fn 108 = some F108 := rfl
theorem fn113 : code.fn 113 = some F113 := rfl
theorem fn114 : code.fn 114 = some F114 := rfl
theorem fn120 : code.fn 120 = some F120 := rfl
theorem rcall6 {O : Oracle} {st : St} {Q : Ex → St → Prop} {fs : List Fr} {d : Option Nat} {b i : Nat} {ap : List X} {r : List IOp} (xs : List X) (fl : Bool) : RunO O code.md (⟨d, .call 6 xs fl, none, b, i, ap⟩ :: r) fs st Q = (quietOk st (.call 6 xs fl) ap = true ∧ RunQ O code.md (callVal O st b 6 (evalXs st xs) fl) d r fs st Q) := R_call 6 xs fl rfl
theorem rcall14 {O : Oracle} {st : St} {Q : Ex → St → Prop} {fs : List Fr} {d : Option Nat} {b i : Nat} {ap : List X} {r : List IOp} (xs : List X) (fl : Bool) : RunO O code.md (⟨d, .call 14 xs fl, none, b, i, ap⟩ :: r) fs st Q = (quietOk st (.call 14 xs fl) ap = true ∧ RunQ O code.md (callVal O st b 14 (evalXs st xs) fl) d r fs st Q) := R_call 14 xs fl rfl
theorem rcall17 {O : Oracle} {st : St} {Q : Ex → St → Prop} {fs : List Fr} {d : Option Nat} {b i : Nat} {ap : List X} {r : List IOp} (xs : List X) (fl : Bool) : RunO O code.md (⟨d, .call 17 xs fl, none, b, i, ap⟩ :: r) fs st Q = (quietOk st (.call 17 xs fl) ap = true ∧ RunQ O code.md (callVal O st b 17 (evalXs st xs) fl) d r fs st Q) := R_call 17 xs fl rfl
theorem rcall18 {O : Oracle} {st : St} {Q : Ex → St → Prop} {fs : List Fr} {d : Option Nat} {b i : Nat} {ap : List X} {r : List IOp} (xs : List X) (fl : Bool) : RunO O code.md (⟨d, .call 18 xs fl, none, b, i, ap⟩ :: r) fs st Q = (quietOk st (.call 18 xs fl) ap = true ∧ RunQ O code.md (callVal O st b 18 (evalXs st xs) fl) d r fs st Q) := R_call 18 xs fl rfl
theorem rcall19 {O : Oracle} {st : St} {Q : Ex → St → Prop} {fs : List Fr} {d : Option Nat} {b i : Nat} {ap : List X} {r : List IOp} (xs : List X) (fl : Bool) : RunO O code.md (⟨d, .call 19 xs fl, none, b, i, ap⟩ :: r) fs st Q = (quietOk st (.call 19 xs fl) ap = true ∧ RunQ O code.md (callVal O st b 19 (evalXs st xs) fl) d r fs st Q) := R_call 19 xs fl rfl
theorem rcall20 {O : Oracle} {st : St} {Q : Ex → St → Prop} {fs : List Fr} {d : Option Nat} {b i : Nat} {ap : List X} {r : List IOp} (xs : List X) (fl : Bool) : RunO O code.md (⟨d, .call 20 xs fl, none, b, i, ap⟩ :: r) fs st Q = (quietOk st (.call 20 xs fl) ap = true ∧ RunQ O code.md (callVal O st b 20 (evalXs st xs) fl) d r fs st Q) := R_call 20 xs fl rfl
theorem rcall21 {O : Oracle} {st : St} {Q : Ex → St → Prop} {fs : List Fr} {d : Option Nat} {b i : Nat} {ap : List X} {r : List IOp} (xs : List X) (fl : Bool) : RunO O code.md (⟨d, .call 21 xs fl, none, b, i, ap⟩ :: r) fs st Q = (quietOk st (.call 21 xs fl) ap = true ∧ RunQ O code.md (callVal O st b 21 (evalXs st xs) fl) d r fs st Q) := R_call 21 xs fl rfl
theorem rcall22 {O : Oracle} {st : St} {Q : Ex → St → Prop} {fs : List Fr} {d : Option Nat} {b i : Nat} {ap : List X} {r : List IOp} (xs : List X) (fl : Bool) : RunO O code.md (⟨d, .call 22 xs fl, none, b, i, ap⟩ :: r) fs st Q = ((apartOk st (.call 22 xs fl) ap && keyedOk st ap) = true ∧ RunK O code.md (callRef O st b 22 (evalXs st xs) fl) st (.call 22 xs fl) ap d r fs Q) := R_callr 22 xs fl rfl
theorem rcall23 {O : Oracle} {st : St} {Q : Ex → St → Prop} {fs : List Fr} {d : Option Nat} {b i : Nat} {ap : List X} {r : List IOp} (xs : List X) (fl : Bool) : RunO O code.md (⟨d, .call 23 xs fl, none, b, i, ap⟩ :: r) fs st Q = (quietOk st (.call 23 xs fl) ap = true ∧ RunQ O code.md (callVal O st b 23 (evalXs st xs) fl) d r fs st Q) := R_call 23 xs fl rfl
theorem rcall25 {O : Oracle} {st : St} {Q : Ex → St → Prop} {fs : List Fr} {d : Option Nat} {b i : Nat} {ap : List X} {r : List IOp} (xs : List X) (fl : Bool) : RunO O code.md (⟨d, .call 25 xs fl, none, b, i, ap⟩ :: r) fs st Q = (quietOk st (.call 25 xs fl) ap = true ∧ RunQ O code.md (callVal O st b 25 (evalXs st xs) fl) d r fs st Q) := R_call 25 xs fl rfl
theorem rcall32 {O : Oracle} {st : St} {Q : Ex → St → Prop} {fs : List Fr} {d : Option Nat} {b i : Nat} {ap : List X} {r : List IOp} (xs : List X) (fl : Bool) : RunO O code.md (⟨d, .call 32 xs fl, none, b, i, ap⟩ :: r) fs st Q = (quietOk st (.call 32 xs fl) ap = true ∧ RunQ O code.md (callVal O st b 32 (evalXs st xs) fl) d r fs st Q) := R_call 32 xs fl rfl
theorem rcall33 {O : Oracle} {st : St} {Q : Ex → St → Prop} {fs : List Fr} {d : Option Nat} {b i : Nat} {ap : List X} {r : List IOp} (xs : List X) (fl : Bool) : RunO O code.md (⟨d, .call 33 xs fl, none, b, i, ap⟩ :: r) fs st Q = (quietOk st (.call 33 xs fl) ap = true ∧ RunQ O code.md (callVal O st b 33 (evalXs st xs) fl) d r fs st Q) := R_call 33 xs fl rfl
theorem rcall34 {O : Oracle} {st : St} {Q : Ex → St → Prop} {fs : List Fr} {d : Option Nat} {b i : Nat} {ap : List X} {r : List IOp} (xs : List X) (fl : Bool) : RunO O code.md (⟨d, .call 34 xs fl, none, b, i, ap⟩ :: r) fs st Q = (quietOk st (.call 34 xs fl) ap = true ∧ RunQ O code.md (callVal O st b 34 (evalXs st xs) fl) d r fs st Q) := R_call 34 xs fl rfl
theorem rcall35 {O : Oracle} {st : St} {Q : Ex → St → Prop} {fs : List Fr} {d : Option Nat} {b i : Nat} {ap : List X} {r : List IOp} (xs : List X) (fl : Bool) : RunO O code.md (⟨d, .call 35 xs fl, none, b, i, ap⟩ :: r) fs st Q = (quietOk st (.call 35 xs fl) ap = true ∧ RunQ O code.md (callVal O st b 35 (evalXs st xs) fl) d r fs st Q) := R_call 35 xs fl rfl
theorem rcall36 {O : Oracle} {st : St} {Q : Ex → St → Prop} {fs : List Fr} {d : Option Nat} {b i : Nat} {ap : List X} {r : List IOp} (xs : List X) (fl : Bool) : RunO O code.md (⟨d, .call 36 xs fl, none, b, i, ap⟩ :: r) fs st Q = (quietOk st (.call 36 xs fl) ap = true ∧ RunQ O code.md (callVal O st b 36 (evalXs st xs) fl) d r fs st Q) := R_call 36 xs fl rfl
theorem rcall37 {O : Oracle} {st : St} {Q : Ex → St → Prop} {fs : List Fr} {d : Option Nat} {b i : Nat} {ap : List X} {r : List IOp} (xs : List X) (fl : Bool) : RunO O code.md (⟨d, .call 37 xs fl, none, b, i, ap⟩ :: r) fs st Q = (quietOk st (.call 37 xs fl) ap = true ∧ RunQ O code.md (callVal O st b 37 (evalXs st xs) fl) d r fs st Q) := R_call 37 xs fl rfl
theorem rcall38 {O : Oracle} {st : St} {Q : Ex → St → Prop} {fs : List Fr} {d : Option Nat} {b i : Nat} {ap : List X} {r : List IOp} (xs : List X) (fl : Bool) : RunO O code.md (⟨d, .call 38 xs fl, none, b, i, ap⟩ :: r) fs st Q = (quietOk st (.call 38 xs fl) ap = true ∧ RunQ O code.md (callVal O st b 38 (evalXs st xs) fl) d r fs st Q) := R_call 38 xs fl rfl
theorem rcall39 {O : Oracle} {st : St} {Q : Ex → St → Prop} {fs : List Fr} {d : Option Nat} {b i : Nat} {ap : List X} {r : List IOp} (xs : List X) (fl : Bool) : RunO O code.md (⟨d, .call 39 xs fl, none, b, i, ap⟩ :: r) fs st Q = (quietOk st (.call 39 xs fl) ap = true ∧ RunQ O code.md (callVal O st b 39 (evalXs st xs) fl) d r fs st Q) := R_call 39 xs fl rfl
theorem rcall40 {O : Oracle} {st : St} {Q : Ex → St → Prop} {fs : List Fr} {d : Option Nat} {b i : Nat} {ap : List X} {r : List IOp} (xs : List X) (fl : Bool) : RunO O code.md (⟨d, .call 40 xs fl, none, b, i, ap⟩ :: r) fs st Q = (quietOk st (.call 40 xs fl) ap = true ∧ RunQ O code.md (callVal O st b 40 (evalXs st xs) fl) d r fs st Q) := R_call 40 xs fl rfl
theorem rcall41 {O : Oracle} {st : St} {Q : Ex → St → Prop} {fs : List Fr} {d : Option Nat} {b i : Nat} {ap : List X} {r : List IOp} (xs : List X) (fl : Bool) : RunO O code.md (⟨d, .call 41 xs fl, none, b, i, ap⟩ :: r) fs st Q = (quietOk st (.call 41 xs fl) ap = true ∧ RunQ O code.md (callVal O st b 41 (evalXs st xs) fl) d r fs st Q) := R_call 41 xs fl rfl
theorem rcall42 {O : Oracle} {st : St} {Q : Ex → St → Prop} {fs : List Fr} {d : Option Nat} {b i : Nat} {ap : List X} {r : List IOp} (xs : List X) (fl : Bool) : RunO O code.md (⟨d, .call 42 xs fl, none, b, i, ap⟩ :: r) fs st Q = (quietOk st (.call 42 xs fl) ap = true ∧ RunQ O code.md (callVal O st b 42 (evalXs st xs) fl) d r fs st Q) := R_call 42 xs fl rfl
theorem rcall43 {O : Oracle} {st : St} {Q : Ex → St → Prop} {fs : List Fr} {d : Option Nat} {b i : Nat} {ap : List X} {r : List IOp} (xs : List X) (fl : Bool) : RunO O code.md (⟨d, .call 43 xs fl, none, b, i, ap⟩ :: r) fs st Q = (quietOk st (.call 43 xs fl) ap = true ∧ RunQ O code.md (callVal O st b 43 (evalXs st xs) fl) d r fs st Q) := R_call 43 xs fl rfl
theorem rcall51 {O : Oracle} {st : St} {Q : Ex → St → Prop} {fs : List Fr} {d : Option Nat} {b i : Nat} {ap : List X} {r : List IOp} (xs : List X) (fl : Bool) : RunO O code.md (⟨d, .call 51 xs fl, none, b, i, ap⟩ :: r) fs st Q = (quietOk st (.call 51 xs fl) ap = true ∧ RunQ O code.md (callVal O st b 51 (evalXs st xs) fl) d r fs st Q) := R_call 51 xs fl rfl
theorem rcall52 {O : Oracle} {st : St} {Q : Ex → St → Prop} {fs : List Fr} {d : Option Nat} {b i : Nat} {ap : List X} {r : List IOp} (xs : List X) (fl : Bool) : RunO O code.md (⟨d, .call 52 xs fl, none, b, i, ap⟩ :: r) fs st Q = (quietOk st (.call 52 xs fl) ap = true ∧ RunQ O code.md (callVal O st b 52 (evalXs st xs) fl) d r fs st Q) := R_call 52 xs fl rfl
theorem rcall53 {O : Oracle} {st : St} {Q : Ex → St → Prop} {fs : List Fr} {d : Option Nat} {b i : Nat} {ap : List X} {r : List IOp} (xs : List X) (fl : Bool) : RunO O code.md (⟨d, .call 53 xs fl, none, b, i, ap⟩ :: r) fs st Q = (quietOk st (.call 53 xs fl) ap = true ∧ RunQ O code.md (callVal O st b 53 (evalXs st xs) fl) d r fs st Q) := R_call 53 xs fl rfl
theorem rcall54 {O : Oracle} {st : St} {Q : Ex → St → Prop} {fs : List Fr} {d : Option Nat} {b i : Nat} {ap : List X} {r : List IOp} (xs : List X) (fl : Bool) : RunO O code.md (⟨d, .call 54 xs fl, none, b, i, ap⟩ :: r) fs st Q = (quietOk st (.call 54 xs fl) ap = true ∧ RunQ O code.md (callVal O st b 54 (evalXs st xs) fl) d r fs st Q) := R_call 54 xs fl rfl
theorem rcall55 {O : Oracle} {st : St} {Q : Ex → St → Prop} {fs : List Fr} {d : Option Nat} {b i : Nat} {ap : List X} {r : List IOp} (xs : List X) (fl : Bool) : RunO O code.md (⟨d, .call 55 xs fl, none, b, i, ap⟩ :: r) fs st Q = (quietOk st (.call 55 xs fl) ap = true ∧ RunQ O code.md (callVal O st b 55 (evalXs st xs) fl) d r fs st Q) := R_call 55 xs fl rfl
theorem rcall56 {O : Oracle} {st : St} {Q : Ex → St → Prop} {fs : List Fr} {d : Option Nat} {b i : Nat} {ap : List X} {r : List IOp} (xs : List X) (fl : Bool) : RunO O code.md (⟨d, .call 56 xs fl, none, b, i, ap⟩ :: r) fs st Q = (quietOk st (.call 56 xs fl) ap = true ∧ RunQ O code.md (callVal O st b 56 (evalXs st xs) fl) d r fs st Q) := R_call 56 xs fl rfl
theorem rcall57 {O : Oracle} {st : St} {Q : Ex → St → Prop} {fs : List Fr} {d : Option Nat} {b i : Nat} {ap : List X} {r : List IOp} (xs : List X) (fl : Bool) : RunO O code.md (⟨d, .call 57 xs fl, none, b, i, ap⟩ :: r) fs st Q = (quietOk st (.call 57 xs fl) ap = true ∧ RunQ O code.md (callVal O st b 57 (evalXs st xs) fl) d r fs st Q) := R_call 57 xs fl rfl
theorem rcall58 {O : Oracle} {st : St} {Q : Ex → St → Prop} {fs : List Fr} {d : Option Nat} {b i : Nat} {ap : List X} {r : List IOp} (xs : List X) (fl : Bool) : RunO O code.md (⟨d, .call 58 xs fl, none, b, i, ap⟩ :: r) fs st Q = ((apartOk st (.call 58 xs fl) ap && keyedOk st ap) = true ∧ RunK O code.md (callRef O st b 58 (evalXs st xs) fl) st (.call 58 xs fl) ap d r fs Q) := R_callr 58 xs fl rfl
theorem rcall59 {O : Oracle} {st : St} {Q : Ex → St → Prop} {fs : List Fr} {d : Option Nat} {b i : Nat} {ap : List X} {r : List IOp} (xs : List X) (fl : Bool) : RunO O code.md (⟨d, .call 59 xs fl, none, b, i, ap⟩ :: r) fs st Q = ((apartOk st (.call 59 xs fl) ap && keyedOk st ap) = true ∧ RunK O code.md (callRef O st b 59 (evalXs st xs) fl) st (.call 59 xs fl) ap d r fs Q) := R_callr 59 xs fl rfl
theorem rcall60 {O : Oracle} {st : St} {Q : Ex → St → Prop} {fs : List Fr} {d : Option Nat} {b i : Nat} {ap : List X} {r : List IOp} (xs : List X) (fl : Bool) : RunO O code.md (⟨d, .call 60 xs fl, none, b, i, ap⟩ :: r) fs st Q = (quietOk st (.call 60 xs fl) ap = true ∧ RunQ O code.md (callVal O st b 60 (evalXs st xs) fl) d r fs st Q) := R_call 60 xs fl rfl
theorem rcall61 {O : Oracle} {st : St} {Q : Ex → St → Prop} {fs : List Fr} {d : Option Nat} {b i : Nat} {ap : List X} {r : List IOp} (xs : List X) (fl : Bool) : RunO O code.md (⟨d, .call 61 xs fl, none, b, i, ap⟩ :: r) fs st Q = (quietOk st (.call 61 xs fl) ap = true ∧ RunQ O code.md (callVal O st b 61 (evalXs st xs) fl) d r fs st Q) := R_call 61 xs fl rfl
theorem rcall62 {O : Oracle} {st : St} {Q : Ex → St → Prop} {fs : List Fr} {d : Option Nat} {b i : Nat} {ap : List X} {r : List IOp} (xs : List X) (fl : Bool) : RunO O code.md (⟨d, .call 62 xs fl, none, b, i, ap⟩ :: r) fs st Q = (quietOk st (.call 62 xs fl) ap = true ∧ RunQ O code.md (callVal O st b 62 (evalXs st xs) fl) d r fs st Q) := R_call 62 xs fl rfl
theorem rcall67 {O : Oracle} {st : St} {Q : Ex → St → Prop} {fs : List Fr} {d : Option Nat} {b i : Nat} {ap : List X} {r : List IOp} (xs : List X) (fl : Bool) : RunO O code.md (⟨d, .call 67 xs fl, none, b, i, ap⟩ :: r) fs st Q = (quietOk st (.call 67 xs fl) ap = true ∧ RunQ O code.md (callVal O st b 67 (evalXs st xs) fl) d r fs st Q) := R_call 67 xs fl rfl
theorem rcall68 {O : Oracle} {st : St} {Q : Ex → St → Prop} {fs : List Fr} {d : Option Nat} {b i : Nat} {ap : List X} {r : List IOp} (xs : List X) (fl : Bool) : RunO O code.md (⟨d, .call 68 xs fl, none, b, i, ap⟩ :: r) fs st Q = (quietOk st (.call 68 xs fl) ap = true ∧ RunQ O code.md (callVal O st b 68 (evalXs st xs) fl) d r fs st Q) := R_call 68 xs fl rfl
theorem rcall69 {O : Oracle} {st : St} {Q : Ex → St → Prop} {fs : List Fr} {d : Option Nat} {b i : Nat} {ap : List X} {r : List IOp} (xs : List X) (fl : Bool) : RunO O code.md (⟨d, .call 69 xs fl, none, b, i, ap⟩ :: r) fs st Q = (quietOk st (.call 69 xs fl) ap = true ∧ RunQ O code.md (callVal O st b 69 (evalXs st xs) fl) d r fs st Q) := R_call 69 xs fl rfl
theorem rcall70 {O : Oracle} {st : St} {Q : Ex → St → Prop} {fs : List Fr} {d : Option Nat} {b i : Nat} {ap : List X} {r : List IOp} (xs : List X) (fl : Bool) : RunO O code.md (⟨d, .call 70 xs fl, none, b, i, ap⟩ :: r) fs st Q = (quietOk st (.call 70 xs fl) ap = true ∧ RunQ O code.md (callVal O st b 70 (evalXs st xs) fl) d r fs st Q) := R_call 70 xs fl rfl
theorem rcall71 {O : Oracle} {st : St} {Q : Ex → St → Prop} {fs : List Fr} {d : Option Nat} {b i : Nat} {ap : List X} {r : List IOp} (xs : List X) (fl : Bool) : RunO O code.md (⟨d, .call 71 xs fl, none, b, i, ap⟩ :: r) fs st Q = (quietOk st (.call 71 xs fl) ap = true ∧ RunQ O code.md (callVal O st b 71 (evalXs st xs) fl) d r fs st Q) := R_call 71 xs fl rfl
theorem rcall72 {O : Oracle} {st : St} {Q : Ex → St → Prop} {fs : List Fr} {d : Option Nat} {b i : Nat} {ap : List X} {r : List IOp} (xs : List X) (fl : Bool) : RunO O code.md (⟨d, .call 72 xs fl, none, b, i, ap⟩ :: r) fs st Q = (quietOk st (.call 72 xs fl) ap = true ∧ RunQ O code.md (callVal O st b 72 (evalXs st xs) fl) d r fs st Q) := R_call 72 xs fl rfl
theorem rcall73 {O : Oracle} {st : St} {Q : Ex → St → Prop} {fs : List Fr} {d : Option Nat} {b i : Nat} {ap : List X} {r : List IOp} (xs : List X) (fl : Bool) : RunO O code.md (⟨d, .call 73 xs fl, none, b, i, ap⟩ :: r) fs st Q = (quietOk st (.call 73 xs fl) ap = true ∧ RunQ O code.md (callVal O st b 73 (evalXs st xs) fl) d r fs st Q) := R_call 73 xs fl rfl
theorem rcall74 {O : Oracle} {st : St} {Q : Ex → St → Prop} {fs : List Fr} {d : Option Nat} {b i : Nat} {ap : List X} {r : List IOp} (xs : List X) (fl : Bool) : RunO O code.md (⟨d, .call 74 xs fl, none, b, i, ap⟩ :: r) fs st Q = (quietOk st (.call 74 xs fl) ap = true ∧ RunQ O code.md (callVal O st b 74 (evalXs st xs) fl) d r fs st Q) := R_call 74 xs fl rfl
theorem rcall75 {O : Oracle} {st : St} {Q : Ex → St → Prop} {fs : List Fr} {d : Option Nat} {b i : Nat} {ap : List X} {r : List IOp} (xs : List X) (fl : Bool) : RunO O code.md (⟨d, .call 75 xs fl, none, b, i, ap⟩ :: r) fs st Q = (quietOk st (.call 75 xs fl) ap = true ∧ RunQ O code.md (callVal O st b 75 (evalXs st xs) fl) d r fs st Q) := R_call 75 xs fl rfl
theorem rcall78 {O : Oracle} {st : St} {Q : Ex → St → Prop} {fs : List Fr} {d : Option Nat} {b i : Nat} {ap : List X} {r : List IOp} (xs : List X) (fl : Bool) : RunO O code.md (⟨d, .call 78 xs fl, none, b, i, ap⟩ :: r) fs st Q = (quietOk st (.call 78 xs fl) ap = true ∧ RunQ O code.md (callVal O st b 78 (evalXs st xs) fl) d r fs st Q) := R_call 78 xs fl rfl
theorem rcall80 {O : Oracle} {st : St} {Q : Ex → St → Prop} {fs : List Fr} {d : Option Nat} {b i : Nat} {ap : List X} {r : List IOp} (xs : List X) (fl : Bool) : RunO O code.md (⟨d, .call 80 xs fl, none, b, i, ap⟩ :: r) fs st Q = (quietOk st (.call 80 xs fl) ap = true ∧ RunQ O code.md (callVal O st b 80 (evalXs st xs) fl) d r fs st Q) := R_call 80 xs fl rfl
theorem rcall81 {O : Oracle} {st : St} {Q : Ex → St → Prop} {fs : List Fr} {d : Option Nat} {b i : Nat} {ap : List X} {r : List IOp} (xs : List X) (fl : Bool) : RunO O code.md (⟨d, .call 81 xs fl, none, b, i, ap⟩ :: r) fs st Q = (quietOk st (.call 81 xs fl) ap = true ∧ RunQ O code.md (callVal O st b 81 (evalXs st xs) fl) d r fs st Q) := R_call 81 xs fl rfl
theorem rcall82 {O : Oracle} {st : St} {Q : Ex → St → Prop} {fs : List Fr} {d : Option Nat} {b i : Nat} {ap : List X} {r : List IOp} (xs : List X) (fl : Bool) : RunO O code.md (⟨d, .call 82 xs fl, none, b, i, ap⟩ :: r) fs st Q = (quietOk st (.call 82 xs fl) ap = true ∧ RunQ O code.md (callVal O st b 82 (evalXs st xs) fl) d r fs st Q) := R_call 82 xs fl rfl
theorem rcall83 {O : Oracle} {st : St} {Q : Ex → St → Prop} {fs : List Fr} {d : Option Nat} {b i : Nat} {ap : List X} {r : List IOp} (xs : List X) (fl : Bool) : RunO O code.md (⟨d, .call 83 xs fl, none, b, i, ap⟩ :: r) fs st Q = (quietOk st (.call 83 xs fl) ap = true ∧ RunQ O code.md (callVal O st b 83 (evalXs st xs) fl) d r fs st Q) := R_call 83 xs fl rfl
theorem rcall87 {O : Oracle} {st : St} {Q : Ex → St → Prop} {fs : List Fr} {d : Option Nat} {b i : Nat} {ap : List X} {r : List IOp} (xs : List X) (fl : Bool) : RunO O code.md (⟨d, .call 87 xs fl, none, b, i, ap⟩ :: r) fs st Q = (quietOk st (.call 87 xs fl) ap = true ∧ RunQ O code.md (callVal O st b 87 (evalXs st xs) fl) d r fs st Q) := R_call 87 xs fl rfl
theorem rcall88 {O : Oracle} {st : St} {Q : Ex → St → Prop} {fs : List Fr} {d : Option Nat} {b i : Nat} {ap : List X} {r : List IOp} (xs : List X) (fl : Bool) : RunO O code.md (⟨d, .call 88 xs fl, none, b, i, ap⟩ :: r) fs st Q = (quietOk st (.call 88 xs fl) ap = true ∧ RunQ O code.md (callVal O st b 88 (evalXs st xs) fl) d r fs st Q) := R_call 88 xs fl rfl
theorem rcall89 {O : Oracle} {st : St} {Q : Ex → St → Prop} {fs : List Fr} {d : Option Nat} {b i : Nat} {ap : List X} {r : List IOp} (xs : List X) (fl : Bool) : RunO O code.md (⟨d, .call 89 xs fl, none, b, i, ap⟩ :: r) fs st Q = (quietOk st (.call 89 xs fl) ap = true ∧ RunQ O code.md (callVal O st b 89 (evalXs st xs) fl) d r fs st Q) := R_call 89 xs fl rfl
theorem rcall90 {O : Oracle} {st : St} {Q : Ex → St → Prop} {fs : List Fr} {d : Option Nat} {b i : Nat} {ap : List X} {r : List IOp} (xs : List X) (fl : Bool) : RunO O code.md (⟨d, .call 90 xs fl, none, b, i, ap⟩ :: r) fs st Q = (quietOk st (.call 90 xs fl) ap = true ∧ RunQ O code.md (callVal O st b 90 (evalXs st xs) fl) d r fs st Q) := R_call 90 xs fl rfl
theorem rcall91 {O : Oracle} {st : St} {Q : Ex → St → Prop} {fs : List Fr} {d : Option Nat} {b i : Nat} {ap : List X} {r : List IOp} (xs : List X) (fl : Bool) : RunO O code.md (⟨d, .call 91 xs fl, none, b, i, ap⟩ :: r) fs st Q = (quietOk st (.call 91 xs fl) ap = true ∧ RunQ O code.md (callVal O st b 91 (evalXs st xs) fl) d r fs st Q) := R_call 91 xs fl rfl
theorem rcall92 {O : Oracle} {st : St} {Q : Ex → St → Prop} {fs : List Fr} {d : Option Nat} {b i : Nat} {ap : List X} {r : List IOp} (xs : List X) (fl : Bool) : RunO O code.md (⟨d, .call 92 xs fl, none, b, i, ap⟩ :: r) fs st Q = (quietOk st (.call 92 xs fl) ap = true ∧ RunQ O code.md (callVal O st b 92 (evalXs st xs) fl) d r fs st Q) := R_call 92 xs fl rfl
theorem rcall93 {O : Oracle} {st : St} {Q : Ex → St → Prop} {fs : List Fr} {d : Option Nat} {b i : Nat} {ap : List X} {r : List IOp} (xs : List X) (fl : Bool) : RunO O code.md (⟨d, .call 93 xs fl, none, b, i, ap⟩ :: r) fs st Q = (quietOk st (.call 93 xs fl) ap = true ∧ RunQ O code.md (callVal O st b 93 (evalXs st xs) fl) d r fs st Q) := R_call 93 xs fl rfl
theorem rcall94 {O : Oracle} {st : St} {Q : Ex → St → Prop} {fs : List Fr} {d : Option Nat} {b i : Nat} {ap : List X} {r : List IOp} (xs : List X) (fl : Bool) : RunO O code.md (⟨d, .call 94 xs fl, none, b, i, ap⟩ :: r) fs st Q = (quietOk st (.call 94 xs fl) ap = true ∧ RunQ O code.md (callVal O st b 94 (evalXs st xs) fl) d r fs st Q) := R_call 94 xs fl rfl
theorem rcall95 {O : Oracle} {st : St} {Q : Ex → St → Prop} {fs : List Fr} {d : Option Nat} {b i : Nat} {ap : List X} {r : List IOp} (xs : List X) (fl : Bool) : RunO O code.md (⟨d, .call 95 xs fl, none, b, i, ap⟩ :: r) fs st Q = (quietOk st (.call 95 xs fl) ap = true ∧ RunQ O code.md (callVal O st b 95 (evalXs st xs) fl) d r fs st Q) := R_call 95 xs fl rfl
theorem rcall96 {O : Oracle} {st : St} {Q : Ex → St → Prop} {fs : List Fr} {d : Option Nat} {b i : Nat} {ap : List X} {r : List IOp} (xs : List X) (fl : Bool) : RunO O code.md (⟨d, .call 96 xs fl, none, b, i, ap⟩ :: r) fs st Q = ((apartOk st (.call 96 xs fl) ap && keyedOk st ap) = true ∧ RunK O code.md (callRef O st b 96 (evalXs st xs) fl) st (.call 96 xs fl) ap d r fs Q) := R_callr 96 xs fl rfl
theorem rcall97 {O : Oracle} {st : St} {Q : Ex → St → Prop} {fs : List Fr} {d : Option Nat} {b i : Nat} {ap : List X} {r : List IOp} (xs : List X) (fl : Bool) : RunO O code.md (⟨d, .call 97 xs fl, none, b, i, ap⟩ :: r) fs st Q = (quietOk st (.call 97 xs fl) ap = true ∧ RunQ O code.md (callVal O st b 97 (evalXs st xs) fl) d r fs st Q) := R_call 97 xs fl rfl
theorem rcall98 {O : Oracle} {st : St} {Q : Ex → St → Prop} {fs : List Fr} {d : Option Nat} {b i : Nat} {ap : List X} {r : List IOp} (xs : List X) (fl : Bool) : RunO O code.md (⟨d, .call 98 xs fl, none, b, i, ap⟩ :: r) fs st Q = (quietOk st (.call 98 xs fl) ap = true ∧ RunQ O code.md (callVal O st b 98 (evalXs st xs) fl) d r fs st Q) := R_call 98 xs fl rfl
theorem rcall99 {O : Oracle} {st : St} {Q : Ex → St → Prop} {fs : List Fr} {d : Option Nat} {b i : Nat} {ap : List X} {r : List IOp} (xs : List X) (fl : Bool) : RunO O code.md (⟨d, .call 99 xs fl, none, b, i, ap⟩ :: r) fs st Q = (quietOk st (.call 99 xs fl) ap = true ∧ RunQ O code.md (callVal O st b 99 (evalXs st xs) fl) d r fs st Q) := R_call 99 xs fl rfl
theorem rcall100 {O : Oracle} {st : St} {Q : Ex → St → Prop} {fs : List Fr} {d : Option Nat} {b i : Nat} {ap : List X} {r : List IOp} (xs : List X) (fl : Bool) : RunO O code.md (⟨d, .call 100 xs fl, none, b, i, ap⟩ :: r) fs st Q = (quietOk st (.call 100 xs fl) ap = true ∧ RunQ O code.md (callVal O st b 100 (evalXs st xs) fl) d r fs st Q) := R_call 100 xs fl rfl
theorem rcall101 {O : Oracle} {st : St} {Q : Ex → St → Prop} {fs : List Fr} {d : Option Nat} {b i : Nat} {ap : List X} {r : List IOp} (xs : List X) (fl : Bool) : RunO O code.md (⟨d, .call 101 xs fl, none, b, i, ap⟩ :: r) fs st Q = (quietOk st (.call 101 xs fl) ap = true ∧ RunQ O code.md (callVal O st b 101 (evalXs st xs) fl) d r fs st Q) := R_call 101 xs fl rfl
theorem rcall102 {O : Oracle} {st : St} {Q : Ex → St → Prop} {fs : List Fr} {d : Option Nat} {b i : Nat} {ap : List X} {r : List IOp} (xs : List X) (fl : Bool) : RunO O code.md (⟨d, .call 102 xs fl, none, b, i, ap⟩ :: r) fs st Q = (quietOk st (.call 102 xs fl) ap = true ∧ RunQ O code.md (callVal O st b 102 (evalXs st xs) fl) d r fs st Q) := R_call 102 xs fl rfl
theorem rcall107 {O : Oracle} {st : St} {Q : Ex → St → Prop} {fs : List Fr} {d : Option Nat} {b i : Nat} {ap : List X} {r : List IOp} (xs : List X) (fl : Bool) : RunO O code.md (⟨d, .call 107 xs fl, none, b, i, ap⟩ :: r) fs st Q = (quietOk st (.call 107 xs fl) ap = true ∧ RunQ O code.md (callVal O st b 107 (evalXs st xs) fl) d r fs st Q) := R_call 107 xs fl rfl
theorem rcall108 {O : Oracle} {st : St} {Q : Ex → St → Prop} {fs : List Fr} {d : Option Nat} {b i : Nat} {ap : List X} {r : List IOp} (xs : List X) (fl : Bool) : RunO O code.md (⟨d, .call 108 xs fl, none, b, i, ap⟩ :: r) fs st Q = (quietOk st (.call 108 xs fl) ap = true ∧ RunQ O code.md (callVal O st b 108 (evalXs st xs) fl) d r fs st Q) := R_call 108 xs fl rfl
theorem rcall113 {O : Oracle} {st : St} {Q : Ex → St → Prop} {fs : List Fr} {d : Option Nat} {b i : Nat} {ap : List X} {r : List IOp} (xs : List X) (fl : Bool) : RunO O code.md (⟨d, .call 113 xs fl, none, b, i, ap⟩ :: r) fs st Q = (quietOk st (.call 113 xs fl) ap = true ∧ RunQ O code.md (callVal O st b 113 (evalXs st xs) fl) d r fs st Q) := R_call 113 xs fl rfl
theorem rcall114 {O : Oracle} {st : St} {Q : Ex → St → Prop} {fs : List Fr} {d : Option Nat} {b i : Nat} {ap : List X} {r : List IOp} (xs : List X) (fl : Bool) : RunO O code.md (⟨d, .call 114 xs fl, none, b, i, ap⟩ :: r) fs st Q = (quietOk st (.call 114 xs fl) ap = true ∧ RunQ O code.md (callVal O st b 114 (evalXs st xs) fl) d r fs st Q) := R_call 114 xs fl rfl
theorem rcall120 {O : Oracle} {st : St} {Q : Ex → St → Prop} {fs : List Fr} {d : Option Nat} {b i : Nat} {ap : List X} {r : List IOp} (xs : List X) (fl : Bool) : RunO O code.md (⟨d, .call 120 xs fl, none, b, i, ap⟩ :: r) fs st Q = (quietOk st (.call 120 xs fl) ap = true ∧ RunQ O code.md (callVal O st b 120 (evalXs st xs) fl) d r fs st Q) := R_call 120 xs fl rfl
end Go.Ae.E1
