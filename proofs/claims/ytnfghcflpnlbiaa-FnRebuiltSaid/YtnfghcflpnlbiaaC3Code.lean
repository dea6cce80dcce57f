/- The code of the functions, for the evaluator. -/
import Derived.Test.YtnfghcflpnlbiaaAeL6
namespace Go.Ae.C3

def md : Nat → Mode
  | 27 => .ref
  | 28 => .ref
  | 83 => .ref
  | 122 => .ref
  | 134 => .ref
  | 148 => .ref
  | 155 => .view
  | 156 => .ref
  | 169 => .ref
  | 170 => .ref
  | _ => .val
/-- loop.example/g00849/laws.FnExactBodyOf -/
def F3 : F := ⟨3, 50, [.t 6],
 .seq (.reg [⟨(some 3), .box (.t 0), none, 0, 0, []⟩,
   ⟨(some 6), .mv (.k (.bool false)), none, 256, 1, []⟩])
 (.seq (.reg [⟨(some 7), .mv (.k (.int .i64 1048576)), none, 65536, 0, []⟩])
 (.seq (.reg [⟨(some 13), .mv (.t 2), none, 131072, 0, []⟩,
   ⟨(some 14), .mv (.t 7), none, 131328, 1, []⟩,
   ⟨(some 15), .call 16 [(.t 13), (.t 14)] true, none, 131584, 2, []⟩,
   ⟨(some 7), .mv (.t 15), none, 131840, 3, []⟩])
 (.seq (.seq (.reg [⟨(some 16), .mv (.t 7), none, 196608, 0, []⟩,
   ⟨(some 17), .bin .lss (.t 16) (.k (.int .i64 0)), none, 196864, 1, []⟩])
 (.cond (.t 17)
  (.seq (.reg [⟨(some 6), .mv (.k (.bool true)), none, 262144, 0, []⟩])
  (.ret))
  (.skip)))
 (.seq (.reg [⟨(some 19), .load 2 true (.t 3), none, 327680, 0, []⟩,
   ⟨(some 20), .call 18 [(.t 19)] true, none, 327936, 1, []⟩,
   ⟨(some 21), .mv (.t 1), none, 328192, 2, []⟩,
   ⟨(some 22), .mv (.t 2), none, 328448, 3, []⟩,
   ⟨(some 23), .call 19 [(.t 22)] false, none, 328704, 4, []⟩,
   ⟨(some 24), .call 17 [(.t 20), (.t 21), (.t 23)] true, none, 328960, 5, []⟩,
   ⟨(some 18), .mv (.t 24), none, 329216, 6, []⟩,
   ⟨(some 25), .ext (.t 18) 0, none, 329472, 7, []⟩,
   ⟨(some 26), .ext (.t 18) 1, none, 329728, 8, []⟩,
   ⟨(some 8), .mv (.t 25), none, 329984, 9, []⟩,
   ⟨(some 9), .mv (.t 26), none, 330240, 10, []⟩])
 (.seq (.reg [⟨(some 27), .mv (.t 2), none, 393216, 0, []⟩,
   ⟨(some 28), .call 19 [(.t 27)] false, none, 393472, 1, []⟩,
   ⟨(some 10), .mv (.t 28), none, 393728, 2, []⟩])
 (.seq (.reg [⟨(some 30), .load 2 true (.t 3), none, 458752, 0, []⟩,
   ⟨(some 31), .call 18 [(.t 30)] true, none, 459008, 1, []⟩,
   ⟨(some 32), .mv (.t 1), none, 459264, 2, []⟩,
   ⟨(some 33), .mv (.t 10), none, 459520, 3, []⟩,
   ⟨(some 34), .call 20 [(.t 31), (.t 32), (.t 33)] true, none, 459776, 4, []⟩,
   ⟨(some 29), .mv (.t 34), none, 460032, 5, []⟩,
   ⟨(some 35), .ext (.t 29) 0, none, 460288, 6, []⟩,
   ⟨(some 36), .ext (.t 29) 1, none, 460544, 7, []⟩,
   ⟨(some 11), .mv (.t 35), none, 460800, 8, []⟩,
   ⟨(some 12), .mv (.t 36), none, 461056, 9, []⟩])
 (.seq (.seq (.reg [⟨(some 37), .mv (.t 11), none, 524288, 0, []⟩,
   ⟨(some 38), .mv (.t 8), none, 524544, 1, []⟩,
   ⟨(some 39), .bin .neq (.t 37) (.t 38), none, 524800, 2, []⟩,
   ⟨(some 40), .mv (.t 39), none, 525056, 3, []⟩,
   ⟨(some 41), .mv (.t 12), (some (some 40, false)), 525312, 4, []⟩,
   ⟨(some 42), .mv (.t 9), (some (some 40, false)), 525568, 5, []⟩,
   ⟨(some 43), .bin .neq (.t 41) (.t 42), (some (some 40, false)), 525824, 6, []⟩,
   ⟨(some 44), .pick (.t 40) (.k (.bool true)) (.t 43), none, 526080, 7, []⟩])
 (.cond (.t 44)
  (.seq (.reg [⟨(some 6), .mv (.k (.bool false)), none, 589824, 0, []⟩])
  (.ret))
  (.skip)))
 (.seq (.seq (.reg [⟨(some 45), .mv (.t 10), none, 655360, 0, []⟩,
   ⟨(some 46), .mv (.t 2), none, 655616, 1, []⟩,
   ⟨(some 47), .call 19 [(.t 46)] false, none, 655872, 2, []⟩,
   ⟨(some 48), .call 21 [(.t 45), (.t 47)] true, none, 656128, 3, []⟩,
   ⟨(some 49), .not (.t 48), none, 656384, 4, []⟩])
 (.cond (.t 49)
  (.seq (.reg [⟨(some 6), .mv (.k (.bool false)), none, 720896, 0, []⟩])
  (.ret))
  (.skip)))
 (.seq (.reg [⟨(some 6), .mv (.k (.bool true)), none, 786432, 0, []⟩])
 (.ret))))))))))⟩
/-- loop.example/g00849/laws.FnExactRebuild -/
def F4 : F := ⟨4, 54, [.t 8],
 .seq (.reg [⟨(some 4), .box (.t 0), none, 0, 0, []⟩,
   ⟨(some 8), .mv (.k (.bool false)), none, 256, 1, []⟩])
 (.seq (.reg [⟨(some 9), .mv (.k (.int .i64 1048576)), none, 65536, 0, []⟩])
 (.seq (.reg [⟨(some 15), .mv (.t 2), none, 131072, 0, []⟩,
   ⟨(some 16), .mv (.t 9), none, 131328, 1, []⟩,
   ⟨(some 17), .call 16 [(.t 15), (.t 16)] true, none, 131584, 2, []⟩,
   ⟨(some 9), .mv (.t 17), none, 131840, 3, []⟩])
 (.seq (.seq (.reg [⟨(some 18), .mv (.t 9), none, 196608, 0, []⟩,
   ⟨(some 19), .bin .lss (.t 18) (.k (.int .i64 0)), none, 196864, 1, []⟩])
 (.cond (.t 19)
  (.seq (.reg [⟨(some 8), .mv (.k (.bool true)), none, 262144, 0, []⟩])
  (.ret))
  (.skip)))
 (.seq (.reg [⟨(some 21), .load 2 true (.t 4), none, 327680, 0, []⟩,
   ⟨(some 22), .call 18 [(.t 21)] true, none, 327936, 1, []⟩,
   ⟨(some 23), .mv (.t 1), none, 328192, 2, []⟩,
   ⟨(some 24), .mv (.t 2), none, 328448, 3, []⟩,
   ⟨(some 25), .call 19 [(.t 24)] false, none, 328704, 4, []⟩,
   ⟨(some 26), .mv (.t 3), none, 328960, 5, []⟩,
   ⟨(some 27), .call 22 [(.t 22), (.t 23), (.t 25), (.t 26)] true, none, 329216, 6, []⟩,
   ⟨(some 20), .mv (.t 27), none, 329472, 7, []⟩,
   ⟨(some 28), .ext (.t 20) 0, none, 329728, 8, []⟩,
   ⟨(some 29), .ext (.t 20) 1, none, 329984, 9, []⟩,
   ⟨(some 10), .mv (.t 28), none, 330240, 10, []⟩,
   ⟨(some 11), .mv (.t 29), none, 330496, 11, []⟩])
 (.seq (.reg [⟨(some 30), .mv (.t 2), none, 393216, 0, []⟩,
   ⟨(some 31), .call 19 [(.t 30)] false, none, 393472, 1, []⟩,
   ⟨(some 12), .mv (.t 31), none, 393728, 2, []⟩])
 (.seq (.reg [⟨(some 33), .load 2 true (.t 4), none, 458752, 0, []⟩,
   ⟨(some 34), .call 18 [(.t 33)] true, none, 459008, 1, []⟩,
   ⟨(some 35), .mv (.t 1), none, 459264, 2, []⟩,
   ⟨(some 36), .mv (.t 12), none, 459520, 3, []⟩,
   ⟨(some 37), .mv (.t 3), none, 459776, 4, []⟩,
   ⟨(some 38), .call 23 [(.t 34), (.t 35), (.t 36), (.t 37)] true, none, 460032, 5, []⟩,
   ⟨(some 32), .mv (.t 38), none, 460288, 6, []⟩,
   ⟨(some 39), .ext (.t 32) 0, none, 460544, 7, []⟩,
   ⟨(some 40), .ext (.t 32) 1, none, 460800, 8, []⟩,
   ⟨(some 13), .mv (.t 39), none, 461056, 9, []⟩,
   ⟨(some 14), .mv (.t 40), none, 461312, 10, []⟩])
 (.seq (.seq (.reg [⟨(some 41), .mv (.t 13), none, 524288, 0, []⟩,
   ⟨(some 42), .mv (.t 10), none, 524544, 1, []⟩,
   ⟨(some 43), .bin .neq (.t 41) (.t 42), none, 524800, 2, []⟩,
   ⟨(some 44), .mv (.t 43), none, 525056, 3, []⟩,
   ⟨(some 45), .mv (.t 14), (some (some 44, false)), 525312, 4, []⟩,
   ⟨(some 46), .mv (.t 11), (some (some 44, false)), 525568, 5, []⟩,
   ⟨(some 47), .bin .neq (.t 45) (.t 46), (some (some 44, false)), 525824, 6, []⟩,
   ⟨(some 48), .pick (.t 44) (.k (.bool true)) (.t 47), none, 526080, 7, []⟩])
 (.cond (.t 48)
  (.seq (.reg [⟨(some 8), .mv (.k (.bool false)), none, 589824, 0, []⟩])
  (.ret))
  (.skip)))
 (.seq (.seq (.reg [⟨(some 49), .mv (.t 12), none, 655360, 0, []⟩,
   ⟨(some 50), .mv (.t 2), none, 655616, 1, []⟩,
   ⟨(some 51), .call 19 [(.t 50)] false, none, 655872, 2, []⟩,
   ⟨(some 52), .call 21 [(.t 49), (.t 51)] true, none, 656128, 3, []⟩,
   ⟨(some 53), .not (.t 52), none, 656384, 4, []⟩])
 (.cond (.t 53)
  (.seq (.reg [⟨(some 8), .mv (.k (.bool false)), none, 720896, 0, []⟩])
  (.ret))
  (.skip)))
 (.seq (.reg [⟨(some 8), .mv (.k (.bool true)), none, 786432, 0, []⟩])
 (.ret))))))))))⟩
/-- loop.example/g00849/laws.FnExactOddShards -/
def F5 : F := ⟨3, 109, [.t 6],
 .seq (.reg [⟨(some 3), .box (.t 0), none, 0, 0, []⟩,
   ⟨(some 6), .mv (.k (.bool false)), none, 256, 1, []⟩])
 (.seq (.reg [⟨(some 7), .mv (.k (.int .i64 1048576)), none, 65536, 0, []⟩])
 (.seq (.reg [⟨(some 18), .mv (.t 2), none, 131072, 0, []⟩,
   ⟨(some 19), .mv (.t 7), none, 131328, 1, []⟩,
   ⟨(some 20), .call 16 [(.t 18), (.t 19)] true, none, 131584, 2, []⟩,
   ⟨(some 7), .mv (.t 20), none, 131840, 3, []⟩])
 (.seq (.seq (.reg [⟨(some 21), .mv (.t 7), none, 196608, 0, []⟩,
   ⟨(some 22), .bin .lss (.t 21) (.k (.int .i64 0)), none, 196864, 1, []⟩])
 (.cond (.t 22)
  (.seq (.reg [⟨(some 6), .mv (.k (.bool true)), none, 262144, 0, []⟩])
  (.ret))
  (.skip)))
 (.seq (.reg [⟨(some 24), .load 2 true (.t 3), none, 327680, 0, []⟩,
   ⟨(some 25), .call 18 [(.t 24)] true, none, 327936, 1, []⟩,
   ⟨(some 26), .mv (.t 1), none, 328192, 2, []⟩,
   ⟨(some 27), .mv (.t 2), none, 328448, 3, []⟩,
   ⟨(some 28), .call 19 [(.t 27)] false, none, 328704, 4, []⟩,
   ⟨(some 29), .call 24 [(.t 25), (.t 26), (.t 28)] false, none, 328960, 5, []⟩,
   ⟨(some 23), .mv (.t 29), none, 329216, 6, []⟩,
   ⟨(some 30), .ext (.t 23) 0, none, 329472, 7, []⟩,
   ⟨(some 31), .ext (.t 23) 1, none, 329728, 8, []⟩,
   ⟨(some 8), .mv (.t 30), none, 329984, 9, []⟩,
   ⟨(some 9), .mv (.t 31), none, 330240, 10, []⟩])
 (.seq (.reg [⟨(some 32), .mv (.t 2), none, 393216, 0, []⟩,
   ⟨(some 33), .call 19 [(.t 32)] false, none, 393472, 1, []⟩,
   ⟨(some 10), .mv (.t 33), none, 393728, 2, []⟩])
 (.seq (.reg [⟨(some 35), .load 2 true (.t 3), none, 458752, 0, []⟩,
   ⟨(some 36), .call 18 [(.t 35)] true, none, 459008, 1, []⟩,
   ⟨(some 37), .mv (.t 1), none, 459264, 2, []⟩,
   ⟨(some 38), .mv (.t 10), none, 459520, 3, []⟩,
   ⟨(some 39), .call 25 [(.t 36), (.t 37), (.t 38)] false, none, 459776, 4, []⟩,
   ⟨(some 34), .mv (.t 39), none, 460032, 5, []⟩,
   ⟨(some 40), .ext (.t 34) 0, none, 460288, 6, []⟩,
   ⟨(some 41), .ext (.t 34) 1, none, 460544, 7, []⟩,
   ⟨(some 11), .mv (.t 40), none, 460800, 8, []⟩,
   ⟨(some 12), .mv (.t 41), none, 461056, 9, []⟩])
 (.seq (.seq (.reg [⟨(some 42), .mv (.t 11), none, 524288, 0, []⟩,
   ⟨(some 43), .mv (.t 8), none, 524544, 1, []⟩,
   ⟨(some 44), .call 26 [(.t 42), (.t 43)] true, none, 524800, 2, []⟩,
   ⟨(some 45), .not (.t 44), none, 525056, 3, []⟩,
   ⟨(some 46), .mv (.t 45), none, 525312, 4, []⟩,
   ⟨(some 47), .mv (.t 12), (some (some 46, false)), 525568, 5, []⟩,
   ⟨(some 48), .mv (.t 9), (some (some 46, false)), 525824, 6, []⟩,
   ⟨(some 49), .bin .neq (.t 47) (.t 48), (some (some 46, false)), 526080, 7, []⟩,
   ⟨(some 50), .pick (.t 46) (.k (.bool true)) (.t 49), none, 526336, 8, []⟩])
 (.cond (.t 50)
  (.seq (.reg [⟨(some 6), .mv (.k (.bool false)), none, 589824, 0, []⟩])
  (.ret))
  (.skip)))
 (.seq (.seq (.reg [⟨(some 51), .mv (.t 10), none, 655360, 0, []⟩,
   ⟨(some 52), .mv (.t 2), none, 655616, 1, []⟩,
   ⟨(some 53), .call 19 [(.t 52)] false, none, 655872, 2, []⟩,
   ⟨(some 54), .call 21 [(.t 51), (.t 53)] true, none, 656128, 3, []⟩,
   ⟨(some 55), .not (.t 54), none, 656384, 4, []⟩])
 (.cond (.t 55)
  (.seq (.reg [⟨(some 6), .mv (.k (.bool false)), none, 720896, 0, []⟩])
  (.ret))
  (.skip)))
 (.seq (.reg [⟨(some 13), .mv (.k (.int .i64 1)), none, 786432, 0, []⟩])
 (.seq (.reg [⟨(some 56), .mv (.t 10), none, 851968, 0, []⟩,
   ⟨(some 57), .mv (.t 13), none, 852224, 1, []⟩,
   ⟨(some 58), .call 27 [(.t 56), (.t 57)] true, none, 852480, 2, []⟩,
   ⟨(some 13), .mv (.t 58), none, 852736, 3, []⟩])
 (.seq (.seq (.reg [⟨(some 59), .mv (.t 13), none, 917504, 0, []⟩,
   ⟨(some 60), .bin .lss (.t 59) (.k (.int .i64 0)), none, 917760, 1, []⟩,
   ⟨(some 61), .mv (.t 60), none, 918016, 2, []⟩,
   ⟨(some 62), .mv (.t 11), (some (some 61, false)), 918272, 3, []⟩,
   ⟨(some 63), .mv (.t 8), (some (some 61, false)), 918528, 4, []⟩,
   ⟨(some 64), .call 26 [(.t 62), (.t 63)] true, (some (some 61, false)), 918784, 5, []⟩,
   ⟨(some 65), .not (.t 64), (some (some 61, false)), 919040, 6, []⟩,
   ⟨(some 66), .pick (.t 61) (.k (.bool true)) (.t 65), none, 919296, 7, []⟩,
   ⟨(some 67), .mv (.t 66), none, 919552, 8, []⟩,
   ⟨(some 68), .mv (.t 12), (some (some 67, false)), 919808, 9, []⟩,
   ⟨(some 69), .mv (.t 9), (some (some 67, false)), 920064, 10, []⟩,
   ⟨(some 70), .bin .neq (.t 68) (.t 69), (some (some 67, false)), 920320, 11, []⟩,
   ⟨(some 71), .pick (.t 67) (.k (.bool true)) (.t 70), none, 920576, 12, []⟩])
 (.cond (.t 71)
  (.seq (.reg [⟨(some 6), .mv (.k (.bool false)), none, 983040, 0, []⟩])
  (.ret))
  (.skip)))
 (.seq (.reg [⟨(some 14), .mv (.k (.int .i64 1)), none, 1048576, 0, []⟩])
 (.seq (.reg [⟨(some 72), .mv (.t 11), none, 1114112, 0, []⟩,
   ⟨(some 73), .mv (.t 14), none, 1114368, 1, []⟩,
   ⟨(some 74), .call 28 [(.t 72), (.t 73)] true, none, 1114624, 2, []⟩,
   ⟨(some 14), .mv (.t 74), none, 1114880, 3, []⟩])
 (.seq (.reg [⟨(some 15), .mv (.k (.int .i64 1)), none, 1179648, 0, []⟩])
 (.seq (.reg [⟨(some 75), .mv (.t 11), none, 1245184, 0, []⟩,
   ⟨(some 76), .mv (.t 15), none, 1245440, 1, []⟩,
   ⟨(some 77), .call 29 [(.t 75), (.t 76)] true, none, 1245696, 2, []⟩,
   ⟨(some 15), .mv (.t 77), none, 1245952, 3, []⟩])
 (.seq (.seq (.reg [⟨(some 78), .mv (.t 15), none, 1310720, 0, []⟩,
   ⟨(some 79), .bin .lss (.t 78) (.k (.int .i64 0)), none, 1310976, 1, []⟩])
 (.cond (.t 79)
  (.seq (.reg [⟨(some 6), .mv (.k (.bool false)), none, 1376256, 0, []⟩])
  (.ret))
  (.skip)))
 (.seq (.seq (.reg [⟨(some 80), .mv (.t 15), none, 1441792, 0, []⟩,
   ⟨(some 81), .mv (.t 14), none, 1442048, 1, []⟩,
   ⟨(some 82), .bin .neq (.t 80) (.t 81), none, 1442304, 2, []⟩])
 (.cond (.t 82)
  (.seq (.reg [⟨(some 6), .mv (.k (.bool false)), none, 1507328, 0, []⟩])
  (.ret))
  (.skip)))
 (.seq (.reg [⟨(some 84), .load 2 true (.t 3), none, 1572864, 0, []⟩,
   ⟨(some 85), .call 18 [(.t 84)] true, none, 1573120, 1, []⟩,
   ⟨(some 86), .mv (.t 1), none, 1573376, 2, []⟩,
   ⟨(some 87), .mv (.t 2), none, 1573632, 3, []⟩,
   ⟨(some 88), .call 19 [(.t 87)] false, none, 1573888, 4, []⟩,
   ⟨(some 89), .call 25 [(.t 85), (.t 86), (.t 88)] false, none, 1574144, 5, []⟩,
   ⟨(some 83), .mv (.t 89), none, 1574400, 6, []⟩,
   ⟨(some 90), .ext (.t 83) 0, none, 1574656, 7, []⟩,
   ⟨(some 91), .ext (.t 83) 1, none, 1574912, 8, []⟩,
   ⟨(some 16), .mv (.t 90), none, 1575168, 9, []⟩,
   ⟨(some 17), .mv (.t 91), none, 1575424, 10, []⟩])
 (.seq (.seq (.reg [⟨(some 92), .mv (.t 16), none, 1638400, 0, []⟩,
   ⟨(some 93), .mv (.t 8), none, 1638656, 1, []⟩,
   ⟨(some 94), .call 26 [(.t 92), (.t 93)] true, none, 1638912, 2, []⟩,
   ⟨(some 95), .not (.t 94), none, 1639168, 3, []⟩,
   ⟨(some 96), .mv (.t 95), none, 1639424, 4, []⟩,
   ⟨(some 97), .mv (.t 17), (some (some 96, false)), 1639680, 5, []⟩,
   ⟨(some 98), .mv (.t 9), (some (some 96, false)), 1639936, 6, []⟩,
   ⟨(some 99), .bin .neq (.t 97) (.t 98), (some (some 96, false)), 1640192, 7, []⟩,
   ⟨(some 100), .pick (.t 96) (.k (.bool true)) (.t 99), none, 1640448, 8, []⟩])
 (.cond (.t 100)
  (.seq (.reg [⟨(some 6), .mv (.k (.bool false)), none, 1703936, 0, []⟩])
  (.ret))
  (.skip)))
 (.seq (.reg [⟨(some 15), .mv (.k (.int .i64 1)), none, 1769472, 0, []⟩])
 (.seq (.reg [⟨(some 101), .mv (.t 11), none, 1835008, 0, []⟩,
   ⟨(some 102), .mv (.t 15), none, 1835264, 1, []⟩,
   ⟨(some 103), .call 29 [(.t 101), (.t 102)] true, none, 1835520, 2, []⟩,
   ⟨(some 15), .mv (.t 103), none, 1835776, 3, []⟩])
 (.seq (.seq (.reg [⟨(some 104), .mv (.t 15), none, 1900544, 0, []⟩,
   ⟨(some 105), .bin .lss (.t 104) (.k (.int .i64 0)), none, 1900800, 1, []⟩])
 (.cond (.t 105)
  (.seq (.reg [⟨(some 6), .mv (.k (.bool false)), none, 1966080, 0, []⟩])
  (.ret))
  (.skip)))
 (.seq (.seq (.reg [⟨(some 106), .mv (.t 15), none, 2031616, 0, []⟩,
   ⟨(some 107), .mv (.t 14), none, 2031872, 1, []⟩,
   ⟨(some 108), .bin .neq (.t 106) (.t 107), none, 2032128, 2, []⟩])
 (.cond (.t 108)
  (.seq (.reg [⟨(some 6), .mv (.k (.bool false)), none, 2097152, 0, []⟩])
  (.ret))
  (.skip)))
 (.seq (.reg [⟨(some 6), .mv (.k (.bool true)), none, 2162688, 0, []⟩])
 (.ret)))))))))))))))))))))))))⟩
/-- loop.example/g00849/laws.FnAnyK -/
def F6 : F := ⟨1, 103, [.t 2],
 .seq (.reg [⟨(some 2), .mv (.k (.bool false)), none, 0, 0, []⟩])
 (.seq (.seq (.reg [⟨(some 14), .mv (.t 0), none, 65536, 0, []⟩,
   ⟨(some 15), .len false (.t 14), none, 65792, 1, []⟩,
   ⟨(some 16), .bin .gtr (.t 15) (.k (.int .i64 1048576)), none, 66048, 2, []⟩])
 (.cond (.t 16)
  (.seq (.reg [⟨(some 2), .mv (.k (.bool true)), none, 131072, 0, []⟩])
  (.ret))
  (.skip)))
 (.seq (.reg [⟨(some 17), .mv (.t 0), none, 196608, 0, []⟩,
   ⟨(some 18), .call 30 [(.t 17)] true, none, 196864, 1, []⟩,
   ⟨(some 3), .alloc [(.int .i64 0), (.int .i64 0)], none, 197120, 2, []⟩,
   ⟨none, .store 2 (.t 3) (.t 18), none, 197376, 3, []⟩])
 (.seq (.reg [⟨(some 19), .mv (.t 0), none, 262144, 0, []⟩,
   ⟨(some 20), .call 31 [(.t 19)] true, none, 262400, 1, []⟩,
   ⟨(some 4), .mv (.t 20), none, 262656, 2, []⟩])
 (.seq (.reg [⟨(some 22), .load 2 true (.t 3), none, 327680, 0, []⟩,
   ⟨(some 23), .mv (.t 4), none, 327936, 1, []⟩,
   ⟨(some 24), .call 32 [(.t 22), (.t 23)] false, none, 328192, 2, []⟩,
   ⟨(some 21), .mv (.t 24), none, 328448, 3, []⟩,
   ⟨(some 25), .ext (.t 21) 0, none, 328704, 4, []⟩,
   ⟨(some 26), .ext (.t 21) 1, none, 328960, 5, []⟩,
   ⟨(some 5), .mv (.t 25), none, 329216, 6, []⟩,
   ⟨(some 6), .mv (.t 26), none, 329472, 7, []⟩])
 (.seq (.reg [⟨(some 27), .faddr 0 (.t 3), none, 393216, 0, []⟩,
   ⟨(some 28), .load 1 false (.t 27), none, 393472, 1, []⟩,
   ⟨(some 29), .mv (.t 0), none, 393728, 2, []⟩,
   ⟨(some 30), .faddr 1 (.t 3), none, 393984, 3, []⟩,
   ⟨(some 31), .load 1 false (.t 30), none, 394240, 4, []⟩,
   ⟨(some 32), .bin .add (.t 31) (.k (.int .i64 1)), none, 394496, 5, []⟩,
   ⟨(some 33), .call 33 [(.t 29), (.k (.int .i64 1)), (.t 32)] true, none, 394752, 6, []⟩,
   ⟨(some 34), .bin .add (.t 28) (.t 33), none, 395008, 7, []⟩,
   ⟨(some 7), .mv (.t 34), none, 395264, 8, []⟩])
 (.seq (.reg [⟨(some 36), .mv (.t 5), none, 458752, 0, []⟩,
   ⟨(some 37), .mv (.t 0), none, 459008, 1, []⟩,
   ⟨(some 38), .mv (.t 7), none, 459264, 2, []⟩,
   ⟨(some 39), .faddr 0 (.t 3), none, 459520, 3, []⟩,
   ⟨(some 40), .load 1 false (.t 39), none, 459776, 4, []⟩,
   ⟨(some 41), .faddr 1 (.t 3), none, 460032, 5, []⟩,
   ⟨(some 42), .load 1 false (.t 41), none, 460288, 6, []⟩,
   ⟨(some 43), .bin .add (.t 40) (.t 42), none, 460544, 7, []⟩,
   ⟨(some 44), .call 35 [(.t 37), (.t 38), (.t 43)] false, none, 460800, 8, []⟩,
   ⟨(some 45), .call 34 [(.t 36), (.t 44)] false, none, 461056, 9, []⟩,
   ⟨(some 35), .mv (.t 45), none, 461312, 10, []⟩,
   ⟨(some 46), .ext (.t 35) 0, none, 461568, 11, []⟩,
   ⟨(some 47), .ext (.t 35) 1, none, 461824, 12, []⟩,
   ⟨(some 8), .mv (.t 46), none, 462080, 13, []⟩,
   ⟨(some 9), .mv (.t 47), none, 462336, 14, []⟩])
 (.seq (.seq (.reg [⟨(some 48), .mv (.t 6), none, 524288, 0, []⟩,
   ⟨(some 49), .not (.t 48), none, 524544, 1, []⟩,
   ⟨(some 50), .mv (.t 49), none, 524800, 2, []⟩,
   ⟨(some 51), .mv (.t 9), (some (some 50, false)), 525056, 3, []⟩,
   ⟨(some 52), .not (.t 51), (some (some 50, false)), 525312, 4, []⟩,
   ⟨(some 53), .pick (.t 50) (.k (.bool true)) (.t 52), none, 525568, 5, []⟩,
   ⟨(some 54), .mv (.t 53), none, 525824, 6, []⟩,
   ⟨(some 55), .mv (.t 5), (some (some 54, false)), 526080, 7, []⟩,
   ⟨(some 56), .len false (.t 55), (some (some 54, false)), 526336, 8, []⟩,
   ⟨(some 57), .faddr 0 (.t 3), (some (some 54, false)), 526592, 9, []⟩,
   ⟨(some 58), .load 1 false (.t 57), (some (some 54, false)), 526848, 10, []⟩,
   ⟨(some 59), .faddr 1 (.t 3), (some (some 54, false)), 527104, 11, []⟩,
   ⟨(some 60), .load 1 false (.t 59), (some (some 54, false)), 527360, 12, []⟩,
   ⟨(some 61), .bin .add (.t 58) (.t 60), (some (some 54, false)), 527616, 13, []⟩,
   ⟨(some 62), .bin .neq (.t 56) (.t 61), (some (some 54, false)), 527872, 14, []⟩,
   ⟨(some 63), .pick (.t 54) (.k (.bool true)) (.t 62), none, 528128, 15, []⟩,
   ⟨(some 64), .mv (.t 63), none, 528384, 16, []⟩,
   ⟨(some 65), .load 2 true (.t 3), (some (some 64, false)), 528640, 17, []⟩,
   ⟨(some 66), .mv (.t 4), (some (some 64, false)), 528896, 18, []⟩,
   ⟨(some 67), .len true (.t 66), (some (some 64, false)), 529152, 19, []⟩,
   ⟨(some 68), .mv (.t 8), (some (some 64, false)), 529408, 20, []⟩,
   ⟨(some 69), .call 36 [(.t 65), (.t 67), (.t 68)] true, (some (some 64, false)), 529664, 21, []⟩,
   ⟨(some 70), .not (.t 69), (some (some 64, false)), 529920, 22, []⟩,
   ⟨(some 71), .pick (.t 64) (.k (.bool true)) (.t 70), none, 530176, 23, []⟩])
 (.cond (.t 71)
  (.seq (.reg [⟨(some 2), .mv (.k (.bool false)), none, 589824, 0, []⟩])
  (.ret))
  (.skip)))
 (.seq (.reg [⟨(some 73), .load 2 true (.t 3), none, 655360, 0, []⟩,
   ⟨(some 74), .mv (.t 4), none, 655616, 1, []⟩,
   ⟨(some 75), .len true (.t 74), none, 655872, 2, []⟩,
   ⟨(some 76), .mv (.t 8), none, 656128, 3, []⟩,
   ⟨(some 77), .call 20 [(.t 73), (.t 75), (.t 76)] true, none, 656384, 4, []⟩,
   ⟨(some 72), .mv (.t 77), none, 656640, 5, []⟩,
   ⟨(some 78), .ext (.t 72) 0, none, 656896, 6, []⟩,
   ⟨(some 79), .ext (.t 72) 1, none, 657152, 7, []⟩,
   ⟨(some 10), .mv (.t 78), none, 657408, 8, []⟩,
   ⟨(some 11), .mv (.t 79), none, 657664, 9, []⟩])
 (.seq (.reg [⟨(some 81), .load 2 true (.t 3), none, 720896, 0, []⟩,
   ⟨(some 82), .mv (.t 4), none, 721152, 1, []⟩,
   ⟨(some 83), .len true (.t 82), none, 721408, 2, []⟩,
   ⟨(some 84), .mv (.t 8), none, 721664, 3, []⟩,
   ⟨(some 85), .faddr 0 (.t 3), none, 721920, 4, []⟩,
   ⟨(some 86), .load 1 false (.t 85), none, 722176, 5, []⟩,
   ⟨(some 87), .bin .sub (.t 86) (.k (.int .i64 1)), none, 722432, 6, []⟩,
   ⟨(some 88), .cut 2 (.t 84) none (some (.t 87)), none, 722688, 7, []⟩,
   ⟨(some 89), .call 20 [(.t 81), (.t 83), (.t 88)] true, none, 722944, 8, []⟩,
   ⟨(some 80), .mv (.t 89), none, 723200, 9, []⟩,
   ⟨(some 90), .ext (.t 80) 0, none, 723456, 10, []⟩,
   ⟨(some 91), .ext (.t 80) 1, none, 723712, 11, []⟩,
   ⟨(some 12), .mv (.t 90), none, 723968, 12, []⟩,
   ⟨(some 13), .mv (.t 91), none, 724224, 13, []⟩])
 (.seq (.reg [⟨(some 92), .mv (.t 11), none, 786432, 0, []⟩,
   ⟨(some 93), .bin .eql (.t 92) (.k (.int .i64 0)), none, 786688, 1, []⟩,
   ⟨(some 94), .mv (.t 93), none, 786944, 2, []⟩,
   ⟨(some 95), .mv (.t 10), (some (some 94, true)), 787200, 3, []⟩,
   ⟨(some 96), .mv (.t 4), (some (some 94, true)), 787456, 4, []⟩,
   ⟨(some 97), .bin .eql (.t 95) (.t 96), (some (some 94, true)), 787712, 5, []⟩,
   ⟨(some 98), .pick (.t 94) (.t 97) (.k (.bool false)), none, 787968, 6, []⟩,
   ⟨(some 99), .mv (.t 98), none, 788224, 7, []⟩,
   ⟨(some 100), .mv (.t 13), (some (some 99, true)), 788480, 8, []⟩,
   ⟨(some 101), .bin .eql (.t 100) (.k (.int .i64 8)), (some (some 99, true)), 788736, 9, []⟩,
   ⟨(some 102), .pick (.t 99) (.t 101) (.k (.bool false)), none, 788992, 10, []⟩,
   ⟨(some 2), .mv (.t 102), none, 789248, 11, []⟩])
 (.ret)))))))))))⟩
/-- loop.example/g00849/laws.FnRebuilt -/
def F7 : F := ⟨1, 214, [.t 2],
 .seq (.reg [⟨(some 2), .mv (.k (.bool false)), none, 0, 0, []⟩])
 (.seq (.seq (.reg [⟨(some 23), .mv (.t 0), none, 65536, 0, []⟩,
   ⟨(some 24), .len false (.t 23), none, 65792, 1, []⟩,
   ⟨(some 25), .bin .gtr (.t 24) (.k (.int .i64 1048576)), none, 66048, 2, []⟩])
 (.cond (.t 25)
  (.seq (.reg [⟨(some 2), .mv (.k (.bool true)), none, 131072, 0, []⟩])
  (.ret))
  (.skip)))
 (.seq (.reg [⟨(some 26), .mv (.t 0), none, 196608, 0, []⟩,
   ⟨(some 27), .call 30 [(.t 26)] true, none, 196864, 1, []⟩,
   ⟨(some 3), .alloc [(.int .i64 0), (.int .i64 0)], none, 197120, 2, []⟩,
   ⟨none, .store 2 (.t 3) (.t 27), none, 197376, 3, []⟩])
 (.seq (.reg [⟨(some 28), .mv (.t 0), none, 262144, 0, []⟩,
   ⟨(some 29), .call 31 [(.t 28)] true, none, 262400, 1, []⟩,
   ⟨(some 4), .mv (.t 29), none, 262656, 2, []⟩])
 (.seq (.reg [⟨(some 31), .load 2 true (.t 3), none, 327680, 0, []⟩,
   ⟨(some 32), .mv (.t 4), none, 327936, 1, []⟩,
   ⟨(some 33), .call 32 [(.t 31), (.t 32)] false, none, 328192, 2, []⟩,
   ⟨(some 30), .mv (.t 33), none, 328448, 3, []⟩,
   ⟨(some 34), .ext (.t 30) 0, none, 328704, 4, []⟩,
   ⟨(some 35), .ext (.t 30) 1, none, 328960, 5, []⟩,
   ⟨(some 5), .mv (.t 34), none, 329216, 6, []⟩,
   ⟨(some 6), .mv (.t 35), none, 329472, 7, []⟩])
 (.seq (.reg [⟨(some 37), .load 2 true (.t 3), none, 393216, 0, []⟩,
   ⟨(some 38), .mv (.t 4), none, 393472, 1, []⟩,
   ⟨(some 39), .len true (.t 38), none, 393728, 2, []⟩,
   ⟨(some 40), .call 37 [(.t 37), (.t 39)] true, none, 393984, 3, []⟩,
   ⟨(some 36), .mv (.t 40), none, 394240, 4, []⟩,
   ⟨(some 41), .ext (.t 36) 0, none, 394496, 5, []⟩,
   ⟨(some 42), .ext (.t 36) 1, none, 394752, 6, []⟩,
   ⟨(some 7), .mv (.t 41), none, 395008, 7, []⟩,
   ⟨(some 8), .mv (.t 42), none, 395264, 8, []⟩])
 (.seq (.reg [⟨(some 44), .mv (.t 5), none, 458752, 0, []⟩,
   ⟨(some 45), .mv (.t 0), none, 459008, 1, []⟩,
   ⟨(some 46), .faddr 0 (.t 3), none, 459264, 2, []⟩,
   ⟨(some 47), .load 1 false (.t 46), none, 459520, 3, []⟩,
   ⟨(some 48), .faddr 0 (.t 3), none, 459776, 4, []⟩,
   ⟨(some 49), .load 1 false (.t 48), none, 460032, 5, []⟩,
   ⟨(some 50), .faddr 1 (.t 3), none, 460288, 6, []⟩,
   ⟨(some 51), .load 1 false (.t 50), none, 460544, 7, []⟩,
   ⟨(some 52), .bin .add (.t 49) (.t 51), none, 460800, 8, []⟩,
   ⟨(some 53), .call 35 [(.t 45), (.t 47), (.t 52)] false, none, 461056, 9, []⟩,
   ⟨(some 54), .call 34 [(.t 44), (.t 53)] false, none, 461312, 10, []⟩,
   ⟨(some 43), .mv (.t 54), none, 461568, 11, []⟩,
   ⟨(some 55), .ext (.t 43) 0, none, 461824, 12, []⟩,
   ⟨(some 56), .ext (.t 43) 1, none, 462080, 13, []⟩,
   ⟨(some 9), .mv (.t 55), none, 462336, 14, []⟩,
   ⟨(some 10), .mv (.t 56), none, 462592, 15, []⟩])
 (.seq (.seq (.reg [⟨(some 57), .mv (.t 6), none, 524288, 0, []⟩,
   ⟨(some 58), .not (.t 57), none, 524544, 1, []⟩,
   ⟨(some 59), .mv (.t 58), none, 524800, 2, []⟩,
   ⟨(some 60), .mv (.t 10), (some (some 59, false)), 525056, 3, []⟩,
   ⟨(some 61), .not (.t 60), (some (some 59, false)), 525312, 4, []⟩,
   ⟨(some 62), .pick (.t 59) (.k (.bool true)) (.t 61), none, 525568, 5, []⟩,
   ⟨(some 63), .mv (.t 62), none, 525824, 6, []⟩,
   ⟨(some 64), .mv (.t 5), (some (some 63, false)), 526080, 7, []⟩,
   ⟨(some 65), .len false (.t 64), (some (some 63, false)), 526336, 8, []⟩,
   ⟨(some 66), .faddr 0 (.t 3), (some (some 63, false)), 526592, 9, []⟩,
   ⟨(some 67), .load 1 false (.t 66), (some (some 63, false)), 526848, 10, []⟩,
   ⟨(some 68), .faddr 1 (.t 3), (some (some 63, false)), 527104, 11, []⟩,
   ⟨(some 69), .load 1 false (.t 68), (some (some 63, false)), 527360, 12, []⟩,
   ⟨(some 70), .bin .add (.t 67) (.t 69), (some (some 63, false)), 527616, 13, []⟩,
   ⟨(some 71), .bin .neq (.t 65) (.t 70), (some (some 63, false)), 527872, 14, []⟩,
   ⟨(some 72), .pick (.t 63) (.k (.bool true)) (.t 71), none, 528128, 15, []⟩,
   ⟨(some 73), .mv (.t 72), none, 528384, 16, []⟩,
   ⟨(some 74), .mv (.t 8), (some (some 73, false)), 528640, 17, []⟩,
   ⟨(some 75), .bin .neq (.t 74) (.k (.int .i64 0)), (some (some 73, false)), 528896, 18, []⟩,
   ⟨(some 76), .pick (.t 73) (.k (.bool true)) (.t 75), none, 529152, 19, []⟩])
 (.cond (.t 76)
  (.seq (.reg [⟨(some 2), .mv (.k (.bool false)), none, 589824, 0, []⟩])
  (.ret))
  (.skip)))
 (.seq (.seq (.reg [⟨(some 11), .mv (.k (.int .i64 0)), none, 655360, 0, []⟩])
 (.block 0 (.loop [0, 3, 4, 5, 7, 9, 11] [197120, 197377, 197378, 328192, 328193, 328194, 328195, 461056, 461057, 461058, 461059, 461312, 461313, 461314, 461315, 1114112, 1378048, 1378304, 1442816, 1442817, 1442818, 1442819, 1706753, 1770496, 1770497, 1770498, 1770499, 1836288]
  (.seq (.seq (.reg [⟨(some 77), .mv (.t 11), none, 720896, 0, []⟩,
    ⟨(some 78), .faddr 0 (.t 3), none, 721152, 1, []⟩,
    ⟨(some 79), .load 1 false (.t 78), none, 721408, 2, []⟩,
    ⟨(some 80), .faddr 1 (.t 3), none, 721664, 3, []⟩,
    ⟨(some 81), .load 1 false (.t 80), none, 721920, 4, []⟩,
    ⟨(some 82), .bin .add (.t 79) (.t 81), none, 722176, 5, []⟩,
    ⟨(some 83), .bin .lss (.t 77) (.t 82), none, 722432, 6, []⟩])
  (.cond (.t 83)
   (.skip)
   (.exit 0)))
  (.seq (.block 1 (.seq (.reg [⟨(some 87), .load 2 true (.t 3), none, 851968, 0, []⟩,
    ⟨(some 88), .mv (.t 4), none, 852224, 1, []⟩,
    ⟨(some 89), .len true (.t 88), none, 852480, 2, []⟩,
    ⟨(some 90), .mv (.t 9), none, 852736, 3, []⟩,
    ⟨(some 91), .mv (.t 11), none, 852992, 4, []⟩,
    ⟨(some 92), .call 23 [(.t 87), (.t 89), (.t 90), (.t 91)] true, none, 853248, 5, []⟩,
    ⟨(some 86), .mv (.t 92), none, 853504, 6, []⟩,
    ⟨(some 93), .ext (.t 86) 0, none, 853760, 7, []⟩,
    ⟨(some 94), .ext (.t 86) 1, none, 854016, 8, []⟩,
    ⟨(some 12), .mv (.t 93), none, 854272, 9, []⟩,
    ⟨(some 13), .mv (.t 94), none, 854528, 10, []⟩])
  (.seq (.reg [⟨(some 96), .load 2 true (.t 3), none, 917504, 0, []⟩,
    ⟨(some 97), .mv (.t 4), none, 917760, 1, []⟩,
    ⟨(some 98), .mv (.t 11), none, 918016, 2, []⟩,
    ⟨(some 99), .call 38 [(.t 96), (.t 97), (.t 98)] true, none, 918272, 3, []⟩,
    ⟨(some 95), .mv (.t 99), none, 918528, 4, []⟩,
    ⟨(some 100), .ext (.t 95) 0, none, 918784, 5, []⟩,
    ⟨(some 101), .ext (.t 95) 1, none, 919040, 6, []⟩,
    ⟨(some 14), .mv (.t 100), none, 919296, 7, []⟩,
    ⟨(some 15), .mv (.t 101), none, 919552, 8, []⟩])
  (.seq (.reg [⟨(some 102), .mv (.t 13), none, 983040, 0, []⟩,
    ⟨(some 103), .bin .neq (.t 102) (.k (.int .i64 0)), none, 983296, 1, []⟩,
    ⟨(some 104), .mv (.t 103), none, 983552, 2, []⟩,
    ⟨(some 105), .mv (.t 12), (some (some 104, false)), 983808, 3, []⟩,
    ⟨(some 106), .mv (.t 5), (some (some 104, false)), 984064, 4, []⟩,
    ⟨(some 107), .mv (.t 11), (some (some 104, false)), 984320, 5, []⟩,
    ⟨(some 108), .iaddr 1 (.t 106) (.t 107), (some (some 104, false)), 984576, 6, []⟩,
    ⟨(some 109), .load 1 false (.t 108), (some (some 104, false)), 984832, 7, []⟩,
    ⟨(some 110), .bin .neq (.t 105) (.t 109), (some (some 104, false)), 985088, 8, []⟩,
    ⟨(some 111), .pick (.t 104) (.k (.bool true)) (.t 110), none, 985344, 9, []⟩,
    ⟨(some 112), .mv (.t 111), none, 985600, 10, []⟩,
    ⟨(some 113), .mv (.t 15), (some (some 112, false)), 985856, 11, []⟩,
    ⟨(some 114), .bin .neq (.t 113) (.k (.int .i64 0)), (some (some 112, false)), 986112, 12, []⟩,
    ⟨(some 115), .pick (.t 112) (.k (.bool true)) (.t 114), none, 986368, 13, []⟩,
    ⟨(some 116), .mv (.t 115), none, 986624, 14, []⟩,
    ⟨(some 117), .mv (.t 14), (some (some 116, false)), 986880, 15, []⟩,
    ⟨(some 118), .mv (.t 5), (some (some 116, false)), 987136, 16, []⟩,
    ⟨(some 119), .mv (.t 11), (some (some 116, false)), 987392, 17, []⟩,
    ⟨(some 120), .iaddr 1 (.t 118) (.t 119), (some (some 116, false)), 987648, 18, []⟩,
    ⟨(some 121), .load 1 false (.t 120), (some (some 116, false)), 987904, 19, []⟩,
    ⟨(some 122), .bin .neq (.t 117) (.t 121), (some (some 116, false)), 988160, 20, []⟩,
    ⟨(some 123), .pick (.t 116) (.k (.bool true)) (.t 122), none, 988416, 21, []⟩,
    ⟨(some 124), .mv (.t 123), none, 988672, 22, []⟩,
    ⟨(some 125), .mv (.t 12), (some (some 124, false)), 988928, 23, []⟩,
    ⟨(some 126), .len true (.t 125), (some (some 124, false)), 989184, 24, []⟩,
    ⟨(some 127), .mv (.t 7), (some (some 124, false)), 989440, 25, []⟩,
    ⟨(some 128), .bin .neq (.t 126) (.t 127), (some (some 124, false)), 989696, 26, []⟩,
    ⟨(some 129), .pick (.t 124) (.k (.bool true)) (.t 128), none, 989952, 27, []⟩])
  (.cond (.t 129)
   (.seq (.reg [⟨(some 2), .mv (.k (.bool false)), none, 1048576, 0, []⟩])
   (.ret))
   (.skip))))))
  (.reg [⟨(some 84), .mv (.t 11), none, 786432, 0, []⟩,
    ⟨(some 85), .bin .add (.t 84) (.k (.int .i64 1)), none, 786688, 1, []⟩,
    ⟨(some 11), .mv (.t 85), none, 786944, 2, []⟩]))))))
 (.seq (.reg [⟨(some 130), .bslice true 2 [(.int .i64 0), (.str ByteArray.empty)] 0 [], none, 1114112, 0, []⟩,
   ⟨(some 16), .mv (.t 130), none, 1114368, 1, []⟩])
 (.seq (.seq (.reg [⟨(some 17), .mv (.k (.int .i64 0)), none, 1179648, 0, []⟩])
 (.block 2 (.loop [0, 3, 4, 5, 7, 16, 17] [197120, 197377, 197378, 328192, 328193, 328194, 328195, 461056, 461057, 461058, 461059, 461312, 461313, 461314, 461315, 1114112, 1442816, 1442817, 1442818, 1442819, 1706753, 1770496, 1770497, 1770498, 1770499, 1836288]
  (.seq (.seq (.reg [⟨(some 131), .mv (.t 17), none, 1245184, 0, []⟩,
    ⟨(some 132), .faddr 0 (.t 3), none, 1245440, 1, []⟩,
    ⟨(some 133), .load 1 false (.t 132), none, 1245696, 2, []⟩,
    ⟨(some 134), .faddr 1 (.t 3), none, 1245952, 3, []⟩,
    ⟨(some 135), .load 1 false (.t 134), none, 1246208, 4, []⟩,
    ⟨(some 136), .bin .add (.t 133) (.t 135), none, 1246464, 5, []⟩,
    ⟨(some 137), .bin .lss (.t 131) (.t 136), none, 1246720, 6, []⟩])
  (.cond (.t 137)
   (.skip)
   (.exit 2)))
  (.seq (.block 3 (.reg [⟨(some 140), .mv (.t 16), none, 1376256, 0, []⟩,
    ⟨(some 141), .mv (.t 17), none, 1376512, 1, []⟩,
    ⟨(some 142), .mv (.t 5), none, 1376768, 2, []⟩,
    ⟨(some 143), .mv (.t 17), none, 1377024, 3, []⟩,
    ⟨(some 144), .iaddr 1 (.t 142) (.t 143), none, 1377280, 4, []⟩,
    ⟨(some 145), .load 1 false (.t 144), none, 1377536, 5, []⟩,
    ⟨(some 146), .build [(.int .i64 0), (.str ByteArray.empty)] [(0, 1, (.t 141)), (1, 1, (.t 145))], none, 1377792, 6, []⟩,
    ⟨(some 147), .bslice true 2 [(.int .i64 0), (.str ByteArray.empty)] 1 [(0, (.t 146))], none, 1378048, 7, []⟩,
    ⟨(some 148), .app true 2 24 (.t 140) (.t 147), none, 1378304, 8, []⟩,
    ⟨(some 16), .mv (.t 148), none, 1378560, 9, []⟩]))
  (.reg [⟨(some 138), .mv (.t 17), none, 1310720, 0, []⟩,
    ⟨(some 139), .bin .add (.t 138) (.k (.int .i64 1)), none, 1310976, 1, []⟩,
    ⟨(some 17), .mv (.t 139), none, 1311232, 2, []⟩]))))))
 (.seq (.reg [⟨(some 150), .load 2 true (.t 3), none, 1441792, 0, []⟩,
   ⟨(some 151), .mv (.t 4), none, 1442048, 1, []⟩,
   ⟨(some 152), .len true (.t 151), none, 1442304, 2, []⟩,
   ⟨(some 153), .mv (.t 16), none, 1442560, 3, []⟩,
   ⟨(some 154), .call 25 [(.t 150), (.t 152), (.t 153)] false, none, 1442816, 4, []⟩,
   ⟨(some 149), .mv (.t 154), none, 1443072, 5, []⟩,
   ⟨(some 155), .ext (.t 149) 0, none, 1443328, 6, []⟩,
   ⟨(some 156), .ext (.t 149) 1, none, 1443584, 7, []⟩,
   ⟨(some 18), .mv (.t 155), none, 1443840, 8, []⟩,
   ⟨(some 19), .mv (.t 156), none, 1444096, 9, []⟩])
 (.seq (.seq (.reg [⟨(some 157), .mv (.t 19), none, 1507328, 0, []⟩,
   ⟨(some 158), .bin .neq (.t 157) (.k (.int .i64 0)), none, 1507584, 1, []⟩,
   ⟨(some 159), .mv (.t 158), none, 1507840, 2, []⟩,
   ⟨(some 160), .mv (.t 18), (some (some 159, false)), 1508096, 3, []⟩,
   ⟨(some 161), .len false (.t 160), (some (some 159, false)), 1508352, 4, []⟩,
   ⟨(some 162), .bin .neq (.t 161) (.k (.int .i64 0)), (some (some 159, false)), 1508608, 5, []⟩,
   ⟨(some 163), .pick (.t 159) (.k (.bool true)) (.t 162), none, 1508864, 6, []⟩,
   ⟨(some 164), .mv (.t 163), none, 1509120, 7, []⟩,
   ⟨(some 165), .faddr 1 (.t 3), (some (some 164, false)), 1509376, 8, []⟩,
   ⟨(some 166), .load 1 false (.t 165), (some (some 164, false)), 1509632, 9, []⟩,
   ⟨(some 167), .bin .eql (.t 166) (.k (.int .i64 0)), (some (some 164, false)), 1509888, 10, []⟩,
   ⟨(some 168), .pick (.t 164) (.k (.bool true)) (.t 167), none, 1510144, 11, []⟩,
   ⟨(some 169), .mv (.t 168), none, 1510400, 12, []⟩,
   ⟨(some 170), .mv (.t 7), (some (some 169, false)), 1510656, 13, []⟩,
   ⟨(some 171), .bin .eql (.t 170) (.k (.int .i64 0)), (some (some 169, false)), 1510912, 14, []⟩,
   ⟨(some 172), .pick (.t 169) (.k (.bool true)) (.t 171), none, 1511168, 15, []⟩])
 (.cond (.t 172)
  (.seq (.reg [⟨(some 173), .mv (.t 19), none, 1572864, 0, []⟩,
    ⟨(some 174), .bin .eql (.t 173) (.k (.int .i64 0)), none, 1573120, 1, []⟩,
    ⟨(some 175), .mv (.t 174), none, 1573376, 2, []⟩,
    ⟨(some 176), .mv (.t 18), (some (some 175, true)), 1573632, 3, []⟩,
    ⟨(some 177), .len false (.t 176), (some (some 175, true)), 1573888, 4, []⟩,
    ⟨(some 178), .bin .eql (.t 177) (.k (.int .i64 0)), (some (some 175, true)), 1574144, 5, []⟩,
    ⟨(some 179), .pick (.t 175) (.t 178) (.k (.bool false)), none, 1574400, 6, []⟩,
    ⟨(some 2), .mv (.t 179), none, 1574656, 7, []⟩])
  (.ret))
  (.skip)))
 (.seq (.reg [⟨(some 180), .faddr 0 (.t 3), none, 1638400, 0, []⟩,
   ⟨(some 181), .load 1 false (.t 180), none, 1638656, 1, []⟩,
   ⟨(some 182), .mv (.t 0), none, 1638912, 2, []⟩,
   ⟨(some 183), .faddr 1 (.t 3), none, 1639168, 3, []⟩,
   ⟨(some 184), .load 1 false (.t 183), none, 1639424, 4, []⟩,
   ⟨(some 185), .call 33 [(.t 182), (.k (.int .i64 4)), (.t 184)] true, none, 1639680, 5, []⟩,
   ⟨(some 186), .bin .add (.t 181) (.t 185), none, 1639936, 6, []⟩,
   ⟨(some 20), .mv (.t 186), none, 1640192, 7, []⟩])
 (.seq (.reg [⟨(some 187), .mv (.t 16), none, 1703936, 0, []⟩,
   ⟨(some 188), .mv (.t 20), none, 1704192, 1, []⟩,
   ⟨(some 189), .mv (.t 16), none, 1704448, 2, []⟩,
   ⟨(some 190), .mv (.t 20), none, 1704704, 3, []⟩,
   ⟨(some 191), .iaddr 2 (.t 189) (.t 190), none, 1704960, 4, []⟩,
   ⟨(some 192), .faddr 1 (.t 191), none, 1705216, 5, []⟩,
   ⟨(some 193), .load 1 false (.t 192), none, 1705472, 6, []⟩,
   ⟨(some 194), .mv (.t 0), none, 1705728, 7, []⟩,
   ⟨(some 195), .call 39 [(.t 193), (.t 194)] true, none, 1705984, 8, []⟩,
   ⟨(some 196), .iaddr 2 (.t 187) (.t 188), none, 1706240, 9, []⟩,
   ⟨(some 197), .faddr 1 (.t 196), none, 1706496, 10, []⟩,
   ⟨none, .store 1 (.t 197) (.t 195), none, 1706752, 11, []⟩])
 (.seq (.reg [⟨(some 199), .load 2 true (.t 3), none, 1769472, 0, []⟩,
   ⟨(some 200), .mv (.t 4), none, 1769728, 1, []⟩,
   ⟨(some 201), .len true (.t 200), none, 1769984, 2, []⟩,
   ⟨(some 202), .mv (.t 16), none, 1770240, 3, []⟩,
   ⟨(some 203), .call 25 [(.t 199), (.t 201), (.t 202)] false, none, 1770496, 4, []⟩,
   ⟨(some 198), .mv (.t 203), none, 1770752, 5, []⟩,
   ⟨(some 204), .ext (.t 198) 0, none, 1771008, 6, []⟩,
   ⟨(some 205), .ext (.t 198) 1, none, 1771264, 7, []⟩,
   ⟨(some 21), .mv (.t 204), none, 1771520, 8, []⟩,
   ⟨(some 22), .mv (.t 205), none, 1771776, 9, []⟩])
 (.seq (.reg [⟨(some 206), .mv (.t 22), none, 1835008, 0, []⟩,
   ⟨(some 207), .bin .eql (.t 206) (.k (.int .i64 0)), none, 1835264, 1, []⟩,
   ⟨(some 208), .mv (.t 207), none, 1835520, 2, []⟩,
   ⟨(some 209), .mv (.t 21), (some (some 208, true)), 1835776, 3, []⟩,
   ⟨(some 210), .mv (.t 20), (some (some 208, true)), 1836032, 4, []⟩,
   ⟨(some 211), .bslice true 1 [(.int .i64 0)] 1 [(0, (.t 210))], (some (some 208, true)), 1836288, 5, []⟩,
   ⟨(some 212), .call 40 [(.t 209), (.t 211)] true, (some (some 208, true)), 1836544, 6, []⟩,
   ⟨(some 213), .pick (.t 208) (.t 212) (.k (.bool false)), none, 1836800, 7, []⟩,
   ⟨(some 2), .mv (.t 213), none, 1837056, 8, []⟩])
 (.ret)))))))))))))))))⟩
/-- loop.example/g00849/laws.szShardS -/
def F16 : F := ⟨2, 27, [.t 4],
 .seq (.reg [⟨(some 4), .mv (.k (.int .i64 0)), none, 0, 0, []⟩])
 (.seq (.reg [⟨(some 6), .mv (.t 1), none, 65536, 0, []⟩,
   ⟨(some 7), .mv (.t 0), none, 65792, 1, []⟩,
   ⟨(some 8), .len false (.t 7), none, 66048, 2, []⟩,
   ⟨(some 9), .bin .sub (.t 6) (.t 8), none, 66304, 3, []⟩,
   ⟨(some 1), .mv (.t 9), none, 66560, 4, []⟩])
 (.seq (.seq (.reg [⟨(some 10), .mv (.t 1), none, 131072, 0, []⟩,
   ⟨(some 11), .bin .lss (.t 10) (.k (.int .i64 0)), none, 131328, 1, []⟩])
 (.cond (.t 11)
  (.seq (.reg [⟨(some 4), .mv (.k (.int .i64 (-1))), none, 196608, 0, []⟩])
  (.ret))
  (.skip)))
 (.seq (.seq (.reg [⟨(some 5), .mv (.k (.int .i64 0)), none, 262144, 0, []⟩])
 (.block 0 (.loop [0, 1, 5] []
  (.seq (.seq (.reg [⟨(some 12), .mv (.t 5), none, 327680, 0, []⟩,
    ⟨(some 13), .mv (.t 0), none, 327936, 1, []⟩,
    ⟨(some 14), .len false (.t 13), none, 328192, 2, []⟩,
    ⟨(some 15), .bin .lss (.t 12) (.t 14), none, 328448, 3, []⟩])
  (.cond (.t 15)
   (.skip)
   (.exit 0)))
  (.seq (.block 1 (.seq (.reg [⟨(some 18), .mv (.t 0), none, 458752, 0, []⟩,
    ⟨(some 19), .mv (.t 5), none, 459008, 1, []⟩,
    ⟨(some 20), .iaddr 2 (.t 18) (.t 19), none, 459264, 2, []⟩,
    ⟨(some 21), .load 2 true (.t 20), none, 459520, 3, []⟩,
    ⟨(some 22), .mv (.t 1), none, 459776, 4, []⟩,
    ⟨(some 23), .call 69 [(.t 21), (.t 22)] true, none, 460032, 5, []⟩,
    ⟨(some 1), .mv (.t 23), none, 460288, 6, []⟩])
  (.seq (.reg [⟨(some 24), .mv (.t 1), none, 524288, 0, []⟩,
    ⟨(some 25), .bin .lss (.t 24) (.k (.int .i64 0)), none, 524544, 1, []⟩])
  (.cond (.t 25)
   (.seq (.reg [⟨(some 4), .mv (.k (.int .i64 (-1))), none, 589824, 0, []⟩])
   (.ret))
   (.skip)))))
  (.reg [⟨(some 16), .mv (.t 5), none, 393216, 0, []⟩,
    ⟨(some 17), .bin .add (.t 16) (.k (.int .i64 1)), none, 393472, 1, []⟩,
    ⟨(some 5), .mv (.t 17), none, 393728, 2, []⟩]))))))
 (.seq (.reg [⟨(some 26), .mv (.t 1), none, 655360, 0, []⟩,
   ⟨(some 4), .mv (.t 26), none, 655616, 1, []⟩])
 (.ret)))))⟩
/-- loop.example/g00849/spec.BodyOf -/
def F17 : F := ⟨3, 22, [.t 6, .t 7],
 .seq (.reg [⟨(some 3), .box (.t 0), none, 0, 0, []⟩,
   ⟨(some 6), .mv (.k (.str ByteArray.empty)), none, 256, 1, []⟩,
   ⟨(some 7), .mv (.k (.int .i64 0)), none, 512, 2, []⟩])
 (.seq (.seq (.reg [⟨(some 8), .load 2 true (.t 3), none, 65536, 0, []⟩,
   ⟨(some 9), .mv (.t 1), none, 65792, 1, []⟩,
   ⟨(some 10), .mv (.t 2), none, 66048, 2, []⟩,
   ⟨(some 11), .call 70 [(.t 8), (.t 9), (.t 10)] true, none, 66304, 3, []⟩,
   ⟨(some 12), .not (.t 11), none, 66560, 4, []⟩])
 (.cond (.t 12)
  (.seq (.reg [⟨(some 6), .mv (.k (.str ByteArray.empty)), none, 131072, 0, []⟩,
    ⟨(some 7), .mv (.k (.int .i64 1)), none, 131328, 1, []⟩])
  (.ret))
  (.skip)))
 (.seq (.seq (.reg [⟨(some 13), .mv (.t 2), none, 196608, 0, []⟩,
   ⟨(some 14), .len false (.t 13), none, 196864, 1, []⟩,
   ⟨(some 15), .faddr 0 (.t 3), none, 197120, 2, []⟩,
   ⟨(some 16), .load 1 false (.t 15), none, 197376, 3, []⟩,
   ⟨(some 17), .bin .lss (.t 14) (.t 16), none, 197632, 4, []⟩])
 (.cond (.t 17)
  (.seq (.reg [⟨(some 6), .mv (.k (.str ByteArray.empty)), none, 262144, 0, []⟩,
    ⟨(some 7), .mv (.k (.int .i64 8)), none, 262400, 1, []⟩])
  (.ret))
  (.skip)))
 (.seq (.reg [⟨(some 18), .load 2 true (.t 3), none, 327680, 0, []⟩,
   ⟨(some 19), .mv (.t 1), none, 327936, 1, []⟩,
   ⟨(some 20), .mv (.t 2), none, 328192, 2, []⟩,
   ⟨(some 21), .call 71 [(.t 18), (.t 19), (.t 20)] true, none, 328448, 3, []⟩,
   ⟨(some 6), .mv (.t 21), none, 328704, 4, []⟩,
   ⟨(some 7), .mv (.k (.int .i64 0)), none, 328960, 5, []⟩])
 (.ret))))⟩
/-- loop.example/g00849/laws.toCode -/
def F18 : F := ⟨1, 11, [.cell 2 2 true],
 .seq (.reg [⟨(some 1), .box (.t 0), none, 0, 0, []⟩,
   ⟨(some 2), .alloc [(.int .i64 0), (.int .i64 0)], none, 256, 1, []⟩])
 (.seq (.reg [⟨(some 3), .alloc [(.int .i64 0), (.int .i64 0)], none, 65536, 0, []⟩])
 (.seq (.reg [⟨(some 4), .faddr 0 (.t 1), none, 131072, 0, []⟩,
   ⟨(some 5), .load 1 false (.t 4), none, 131328, 1, []⟩,
   ⟨(some 6), .faddr 0 (.t 3), none, 131584, 2, []⟩,
   ⟨none, .store 1 (.t 6) (.t 5), none, 131840, 3, []⟩])
 (.seq (.reg [⟨(some 7), .faddr 1 (.t 1), none, 196608, 0, []⟩,
   ⟨(some 8), .load 1 false (.t 7), none, 196864, 1, []⟩,
   ⟨(some 9), .faddr 1 (.t 3), none, 197120, 2, []⟩,
   ⟨none, .store 1 (.t 9) (.t 8), none, 197376, 3, []⟩])
 (.seq (.reg [⟨(some 10), .load 2 true (.t 3), none, 262144, 0, []⟩,
   ⟨none, .store 2 (.t 2) (.t 10), none, 262400, 1, []⟩])
 (.ret)))))⟩
/-- loop.example/g00849/laws.toShardS -/
def F19 : F := ⟨1, 23, [.t 2],
 .seq (.reg [⟨(some 2), .nil0 true 2, none, 0, 0, []⟩])
 (.seq (.reg [⟨(some 5), .mv (.t 0), none, 65536, 0, []⟩,
   ⟨(some 6), .len false (.t 5), none, 65792, 1, []⟩,
   ⟨(some 7), .mksl true 2 24 [(.int .i64 0), (.str ByteArray.empty)] (.t 6) (.t 6), none, 66048, 2, []⟩,
   ⟨(some 3), .mv (.t 7), none, 66304, 3, []⟩])
 (.seq (.seq (.reg [⟨(some 4), .mv (.k (.int .i64 0)), none, 131072, 0, []⟩])
 (.block 0 (.loop [0, 3, 4] [0, 66048]
  (.seq (.seq (.reg [⟨(some 8), .mv (.t 4), none, 196608, 0, []⟩,
    ⟨(some 9), .mv (.t 0), none, 196864, 1, []⟩,
    ⟨(some 10), .len false (.t 9), none, 197120, 2, []⟩,
    ⟨(some 11), .bin .lss (.t 8) (.t 10), none, 197376, 3, []⟩])
  (.cond (.t 11)
   (.skip)
   (.exit 0)))
  (.seq (.block 1 (.reg [⟨(some 14), .mv (.t 3), none, 327680, 0, []⟩,
    ⟨(some 15), .mv (.t 4), none, 327936, 1, []⟩,
    ⟨(some 16), .mv (.t 0), none, 328192, 2, []⟩,
    ⟨(some 17), .mv (.t 4), none, 328448, 3, []⟩,
    ⟨(some 18), .iaddr 2 (.t 16) (.t 17), none, 328704, 4, []⟩,
    ⟨(some 19), .load 2 true (.t 18), none, 328960, 5, []⟩,
    ⟨(some 20), .call 72 [(.t 19)] true, none, 329216, 6, []⟩,
    ⟨(some 21), .iaddr 2 (.t 14) (.t 15), none, 329472, 7, []⟩,
    ⟨none, .store 2 (.t 21) (.t 20), none, 329728, 8, []⟩]))
  (.reg [⟨(some 12), .mv (.t 4), none, 262144, 0, []⟩,
    ⟨(some 13), .bin .add (.t 12) (.k (.int .i64 1)), none, 262400, 1, []⟩,
    ⟨(some 4), .mv (.t 13), none, 262656, 2, []⟩]))))))
 (.seq (.reg [⟨(some 22), .mv (.t 3), none, 393216, 0, []⟩,
   ⟨(some 2), .mv (.t 22), none, 393472, 1, []⟩])
 (.ret))))⟩
/-- loop.example/g00849/impl.BodyOf -/
def F20 : F := ⟨3, 22, [.t 6, .t 7],
 .seq (.reg [⟨(some 3), .box (.t 0), none, 0, 0, []⟩,
   ⟨(some 6), .mv (.k (.str ByteArray.empty)), none, 256, 1, []⟩,
   ⟨(some 7), .mv (.k (.int .i64 0)), none, 512, 2, []⟩])
 (.seq (.seq (.reg [⟨(some 9), .load 2 true (.t 3), none, 65536, 0, []⟩,
   ⟨(some 10), .mv (.t 1), none, 65792, 1, []⟩,
   ⟨(some 11), .mv (.t 2), none, 66048, 2, []⟩,
   ⟨(some 12), .call 73 [(.t 9), (.t 10), (.t 11)] true, none, 66304, 3, []⟩,
   ⟨(some 8), .mv (.t 12), none, 66560, 4, []⟩])
 (.seq (.reg [⟨(some 13), .mv (.t 8), none, 131072, 0, []⟩,
   ⟨(some 14), .bin .neq (.t 13) (.k (.int .i64 0)), none, 131328, 1, []⟩])
 (.cond (.t 14)
  (.seq (.reg [⟨(some 15), .mv (.t 8), none, 196608, 0, []⟩,
    ⟨(some 6), .mv (.k (.str ByteArray.empty)), none, 196864, 1, []⟩,
    ⟨(some 7), .mv (.t 15), none, 197120, 2, []⟩])
  (.ret))
  (.skip))))
 (.seq (.reg [⟨(some 16), .load 2 true (.t 3), none, 262144, 0, []⟩,
   ⟨(some 17), .mv (.t 2), none, 262400, 1, []⟩,
   ⟨(some 18), .call 75 [(.t 16), (.t 17)] false, none, 262656, 2, []⟩,
   ⟨(some 19), .call 74 [(.t 18), (.k (.str ByteArray.empty))] true, none, 262912, 3, []⟩,
   ⟨(some 20), .mv (.t 1), none, 263168, 4, []⟩,
   ⟨(some 21), .scut (.t 19) none (some (.t 20)), none, 263424, 5, []⟩,
   ⟨(some 6), .mv (.t 21), none, 263680, 6, []⟩,
   ⟨(some 7), .mv (.k (.int .i64 0)), none, 263936, 7, []⟩])
 (.ret)))⟩
/-- loop.example/g00849/laws.eqShardS -/
def F21 : F := ⟨2, 27, [.t 4],
 .seq (.reg [⟨(some 4), .mv (.k (.bool false)), none, 0, 0, []⟩])
 (.seq (.seq (.reg [⟨(some 6), .mv (.t 0), none, 65536, 0, []⟩,
   ⟨(some 7), .len false (.t 6), none, 65792, 1, []⟩,
   ⟨(some 8), .mv (.t 1), none, 66048, 2, []⟩,
   ⟨(some 9), .len false (.t 8), none, 66304, 3, []⟩,
   ⟨(some 10), .bin .neq (.t 7) (.t 9), none, 66560, 4, []⟩])
 (.cond (.t 10)
  (.seq (.reg [⟨(some 4), .mv (.k (.bool false)), none, 131072, 0, []⟩])
  (.ret))
  (.skip)))
 (.seq (.seq (.reg [⟨(some 5), .mv (.k (.int .i64 0)), none, 196608, 0, []⟩])
 (.block 0 (.loop [0, 1, 5] []
  (.seq (.seq (.reg [⟨(some 11), .mv (.t 5), none, 262144, 0, []⟩,
    ⟨(some 12), .mv (.t 0), none, 262400, 1, []⟩,
    ⟨(some 13), .len false (.t 12), none, 262656, 2, []⟩,
    ⟨(some 14), .bin .lss (.t 11) (.t 13), none, 262912, 3, []⟩])
  (.cond (.t 14)
   (.skip)
   (.exit 0)))
  (.seq (.block 1 (.seq (.reg [⟨(some 17), .mv (.t 0), none, 393216, 0, []⟩,
    ⟨(some 18), .mv (.t 5), none, 393472, 1, []⟩,
    ⟨(some 19), .iaddr 2 (.t 17) (.t 18), none, 393728, 2, []⟩,
    ⟨(some 20), .load 2 true (.t 19), none, 393984, 3, []⟩,
    ⟨(some 21), .mv (.t 1), none, 394240, 4, []⟩,
    ⟨(some 22), .mv (.t 5), none, 394496, 5, []⟩,
    ⟨(some 23), .iaddr 2 (.t 21) (.t 22), none, 394752, 6, []⟩,
    ⟨(some 24), .load 2 true (.t 23), none, 395008, 7, []⟩,
    ⟨(some 25), .call 76 [(.t 20), (.t 24)] true, none, 395264, 8, []⟩,
    ⟨(some 26), .not (.t 25), none, 395520, 9, []⟩])
  (.cond (.t 26)
   (.seq (.reg [⟨(some 4), .mv (.k (.bool false)), none, 458752, 0, []⟩])
   (.ret))
   (.skip))))
  (.reg [⟨(some 15), .mv (.t 5), none, 327680, 0, []⟩,
    ⟨(some 16), .bin .add (.t 15) (.k (.int .i64 1)), none, 327936, 1, []⟩,
    ⟨(some 5), .mv (.t 16), none, 328192, 2, []⟩]))))))
 (.seq (.reg [⟨(some 4), .mv (.k (.bool true)), none, 524288, 0, []⟩])
 (.ret))))⟩
/-- loop.example/g00849/spec.Rebuild -/
def F22 : F := ⟨4, 35, [.t 8, .t 9],
 .seq (.reg [⟨(some 4), .box (.t 0), none, 0, 0, []⟩,
   ⟨(some 8), .mv (.k (.str ByteArray.empty)), none, 256, 1, []⟩,
   ⟨(some 9), .mv (.k (.int .i64 0)), none, 512, 2, []⟩])
 (.seq (.seq (.reg [⟨(some 10), .load 2 true (.t 4), none, 65536, 0, []⟩,
   ⟨(some 11), .mv (.t 1), none, 65792, 1, []⟩,
   ⟨(some 12), .mv (.t 2), none, 66048, 2, []⟩,
   ⟨(some 13), .call 70 [(.t 10), (.t 11), (.t 12)] true, none, 66304, 3, []⟩,
   ⟨(some 14), .not (.t 13), none, 66560, 4, []⟩])
 (.cond (.t 14)
  (.seq (.reg [⟨(some 8), .mv (.k (.str ByteArray.empty)), none, 131072, 0, []⟩,
    ⟨(some 9), .mv (.k (.int .i64 1)), none, 131328, 1, []⟩])
  (.ret))
  (.skip)))
 (.seq (.seq (.reg [⟨(some 15), .mv (.t 3), none, 196608, 0, []⟩,
   ⟨(some 16), .faddr 0 (.t 4), none, 196864, 1, []⟩,
   ⟨(some 17), .load 1 false (.t 16), none, 197120, 2, []⟩,
   ⟨(some 18), .faddr 1 (.t 4), none, 197376, 3, []⟩,
   ⟨(some 19), .load 1 false (.t 18), none, 197632, 4, []⟩,
   ⟨(some 20), .bin .add (.t 17) (.t 19), none, 197888, 5, []⟩,
   ⟨(some 21), .bin .sub (.t 20) (.k (.int .i64 1)), none, 198144, 6, []⟩,
   ⟨(some 22), .call 77 [(.t 15), (.k (.int .i64 0)), (.t 21)] true, none, 198400, 7, []⟩,
   ⟨(some 23), .not (.t 22), none, 198656, 8, []⟩])
 (.cond (.t 23)
  (.seq (.reg [⟨(some 8), .mv (.k (.str ByteArray.empty)), none, 262144, 0, []⟩,
    ⟨(some 9), .mv (.k (.int .i64 2)), none, 262400, 1, []⟩])
  (.ret))
  (.skip)))
 (.seq (.seq (.reg [⟨(some 24), .mv (.t 2), none, 327680, 0, []⟩,
   ⟨(some 25), .len false (.t 24), none, 327936, 1, []⟩,
   ⟨(some 26), .faddr 0 (.t 4), none, 328192, 2, []⟩,
   ⟨(some 27), .load 1 false (.t 26), none, 328448, 3, []⟩,
   ⟨(some 28), .bin .lss (.t 25) (.t 27), none, 328704, 4, []⟩])
 (.cond (.t 28)
  (.seq (.reg [⟨(some 8), .mv (.k (.str ByteArray.empty)), none, 393216, 0, []⟩,
    ⟨(some 9), .mv (.k (.int .i64 8)), none, 393472, 1, []⟩])
  (.ret))
  (.skip)))
 (.seq (.reg [⟨(some 29), .load 2 true (.t 4), none, 458752, 0, []⟩,
   ⟨(some 30), .mv (.t 2), none, 459008, 1, []⟩,
   ⟨(some 31), .call 78 [(.t 29), (.t 30)] false, none, 459264, 2, []⟩,
   ⟨(some 32), .mv (.t 3), none, 459520, 3, []⟩,
   ⟨(some 33), .iaddr 1 (.t 31) (.t 32), none, 459776, 4, []⟩,
   ⟨(some 34), .load 1 false (.t 33), none, 460032, 5, []⟩,
   ⟨(some 8), .mv (.t 34), none, 460288, 6, []⟩,
   ⟨(some 9), .mv (.k (.int .i64 0)), none, 460544, 7, []⟩])
 (.ret)))))⟩
/-- loop.example/g00849/impl.Rebuild -/
def F23 : F := ⟨4, 35, [.t 8, .t 9],
 .seq (.reg [⟨(some 4), .box (.t 0), none, 0, 0, []⟩,
   ⟨(some 8), .mv (.k (.str ByteArray.empty)), none, 256, 1, []⟩,
   ⟨(some 9), .mv (.k (.int .i64 0)), none, 512, 2, []⟩])
 (.seq (.block 0 (.seq (.reg [⟨(some 11), .load 2 true (.t 4), none, 65536, 0, []⟩,
   ⟨(some 12), .mv (.t 1), none, 65792, 1, []⟩,
   ⟨(some 13), .mv (.t 2), none, 66048, 2, []⟩,
   ⟨(some 14), .call 36 [(.t 11), (.t 12), (.t 13)] true, none, 66304, 3, []⟩,
   ⟨(some 15), .not (.t 14), none, 66560, 4, []⟩,
   ⟨(some 10), .mv (.t 15), none, 66816, 5, []⟩])
 (.cond (.t 10)
  (.seq (.reg [⟨(some 8), .mv (.k (.str ByteArray.empty)), none, 131072, 0, []⟩,
    ⟨(some 9), .mv (.k (.int .i64 1)), none, 131328, 1, []⟩])
  (.ret))
  (.seq (.reg [⟨(some 17), .load 2 true (.t 4), none, 196608, 0, []⟩,
    ⟨(some 18), .mv (.t 3), none, 196864, 1, []⟩,
    ⟨(some 19), .call 79 [(.t 17), (.t 18)] true, none, 197120, 2, []⟩,
    ⟨(some 20), .not (.t 19), none, 197376, 3, []⟩,
    ⟨(some 16), .mv (.t 20), none, 197632, 4, []⟩])
  (.cond (.t 16)
   (.seq (.reg [⟨(some 8), .mv (.k (.str ByteArray.empty)), none, 262144, 0, []⟩,
     ⟨(some 9), .mv (.k (.int .i64 2)), none, 262400, 1, []⟩])
   (.ret))
   (.seq (.reg [⟨(some 22), .mv (.t 2), none, 327680, 0, []⟩,
     ⟨(some 23), .len false (.t 22), none, 327936, 1, []⟩,
     ⟨(some 24), .faddr 0 (.t 4), none, 328192, 2, []⟩,
     ⟨(some 25), .load 1 false (.t 24), none, 328448, 3, []⟩,
     ⟨(some 26), .bin .lss (.t 23) (.t 25), none, 328704, 4, []⟩,
     ⟨(some 21), .mv (.t 26), none, 328960, 5, []⟩])
   (.cond (.t 21)
    (.seq (.reg [⟨(some 8), .mv (.k (.str ByteArray.empty)), none, 393216, 0, []⟩,
      ⟨(some 9), .mv (.k (.int .i64 8)), none, 393472, 1, []⟩])
    (.ret))
    (.skip))))))))
 (.seq (.reg [⟨(some 27), .load 2 true (.t 4), none, 458752, 0, []⟩,
   ⟨(some 28), .load 2 true (.t 4), none, 459008, 1, []⟩,
   ⟨(some 29), .mv (.t 2), none, 459264, 2, []⟩,
   ⟨(some 30), .call 75 [(.t 28), (.t 29)] false, none, 459520, 3, []⟩,
   ⟨(some 31), .call 80 [(.t 27), (.t 30)] false, none, 459776, 4, []⟩,
   ⟨(some 32), .mv (.t 3), none, 460032, 5, []⟩,
   ⟨(some 33), .iaddr 1 (.t 31) (.t 32), none, 460288, 6, []⟩,
   ⟨(some 34), .load 1 false (.t 33), none, 460544, 7, []⟩,
   ⟨(some 8), .mv (.t 34), none, 460800, 8, []⟩,
   ⟨(some 9), .mv (.k (.int .i64 0)), none, 461056, 9, []⟩])
 (.ret)))⟩
/-- loop.example/g00849/spec.OddShards -/
def F24 : F := ⟨3, 56, [.t 6, .t 7],
 .seq (.reg [⟨(some 3), .box (.t 0), none, 0, 0, []⟩,
   ⟨(some 6), .nil0 true 1, none, 256, 1, []⟩,
   ⟨(some 7), .mv (.k (.int .i64 0)), none, 512, 2, []⟩])
 (.seq (.seq (.reg [⟨(some 11), .load 2 true (.t 3), none, 65536, 0, []⟩,
   ⟨(some 12), .mv (.t 1), none, 65792, 1, []⟩,
   ⟨(some 13), .mv (.t 2), none, 66048, 2, []⟩,
   ⟨(some 14), .call 70 [(.t 11), (.t 12), (.t 13)] true, none, 66304, 3, []⟩,
   ⟨(some 15), .not (.t 14), none, 66560, 4, []⟩])
 (.cond (.t 15)
  (.seq (.reg [⟨(some 16), .bslice true 1 [(.int .i64 0)] 0 [], none, 131072, 0, []⟩,
    ⟨(some 6), .mv (.t 16), none, 131328, 1, []⟩,
    ⟨(some 7), .mv (.k (.int .i64 1)), none, 131584, 2, []⟩])
  (.ret))
  (.skip)))
 (.seq (.seq (.reg [⟨(some 17), .mv (.t 2), none, 196608, 0, []⟩,
   ⟨(some 18), .len false (.t 17), none, 196864, 1, []⟩,
   ⟨(some 19), .faddr 0 (.t 3), none, 197120, 2, []⟩,
   ⟨(some 20), .load 1 false (.t 19), none, 197376, 3, []⟩,
   ⟨(some 21), .bin .lss (.t 18) (.t 20), none, 197632, 4, []⟩])
 (.cond (.t 21)
  (.seq (.reg [⟨(some 22), .bslice true 1 [(.int .i64 0)] 0 [], none, 262144, 0, []⟩,
    ⟨(some 6), .mv (.t 22), none, 262400, 1, []⟩,
    ⟨(some 7), .mv (.k (.int .i64 8)), none, 262656, 2, []⟩])
  (.ret))
  (.skip)))
 (.seq (.reg [⟨(some 23), .load 2 true (.t 3), none, 327680, 0, []⟩,
   ⟨(some 24), .mv (.t 2), none, 327936, 1, []⟩,
   ⟨(some 25), .call 78 [(.t 23), (.t 24)] false, none, 328192, 2, []⟩,
   ⟨(some 8), .mv (.t 25), none, 328448, 3, []⟩])
 (.seq (.reg [⟨(some 26), .bslice true 1 [(.int .i64 0)] 0 [], none, 393216, 0, []⟩,
   ⟨(some 9), .mv (.t 26), none, 393472, 1, []⟩])
 (.seq (.seq (.reg [⟨(some 10), .mv (.k (.int .i64 0)), none, 458752, 0, []⟩])
 (.block 0 (.loop [2, 8, 9, 10] [0, 1, 2, 3, 4, 5, 256, 131072, 262144, 328192, 328193, 328194, 328195, 393216]
  (.seq (.seq (.reg [⟨(some 27), .mv (.t 10), none, 524288, 0, []⟩,
    ⟨(some 28), .mv (.t 2), none, 524544, 1, []⟩,
    ⟨(some 29), .len false (.t 28), none, 524800, 2, []⟩,
    ⟨(some 30), .bin .lss (.t 27) (.t 29), none, 525056, 3, []⟩])
  (.cond (.t 30)
   (.skip)
   (.exit 0)))
  (.seq (.block 1 (.seq (.reg [⟨(some 33), .mv (.t 8), none, 655360, 0, []⟩,
    ⟨(some 34), .mv (.t 2), none, 655616, 1, []⟩,
    ⟨(some 35), .mv (.t 10), none, 655872, 2, []⟩,
    ⟨(some 36), .iaddr 2 (.t 34) (.t 35), none, 656128, 3, []⟩,
    ⟨(some 37), .faddr 0 (.t 36), none, 656384, 4, []⟩,
    ⟨(some 38), .load 1 false (.t 37), none, 656640, 5, []⟩,
    ⟨(some 39), .iaddr 1 (.t 33) (.t 38), none, 656896, 6, []⟩,
    ⟨(some 40), .load 1 false (.t 39), none, 657152, 7, []⟩,
    ⟨(some 41), .mv (.t 2), none, 657408, 8, []⟩,
    ⟨(some 42), .mv (.t 10), none, 657664, 9, []⟩,
    ⟨(some 43), .iaddr 2 (.t 41) (.t 42), none, 657920, 10, []⟩,
    ⟨(some 44), .faddr 1 (.t 43), none, 658176, 11, []⟩,
    ⟨(some 45), .load 1 false (.t 44), none, 658432, 12, []⟩,
    ⟨(some 46), .bin .neq (.t 40) (.t 45), none, 658688, 13, []⟩])
  (.cond (.t 46)
   (.reg [⟨(some 47), .mv (.t 9), none, 720896, 0, []⟩,
     ⟨(some 48), .mv (.t 2), none, 721152, 1, []⟩,
     ⟨(some 49), .mv (.t 10), none, 721408, 2, []⟩,
     ⟨(some 50), .iaddr 2 (.t 48) (.t 49), none, 721664, 3, []⟩,
     ⟨(some 51), .faddr 0 (.t 50), none, 721920, 4, []⟩,
     ⟨(some 52), .load 1 false (.t 51), none, 722176, 5, []⟩,
     ⟨(some 53), .bslice true 1 [(.int .i64 0)] 1 [(0, (.t 52))], none, 722432, 6, []⟩,
     ⟨(some 54), .app true 1 8 (.t 47) (.t 53), none, 722688, 7, []⟩,
     ⟨(some 9), .mv (.t 54), none, 722944, 8, []⟩])
   (.skip))))
  (.reg [⟨(some 31), .mv (.t 10), none, 589824, 0, []⟩,
    ⟨(some 32), .bin .add (.t 31) (.k (.int .i64 1)), none, 590080, 1, []⟩,
    ⟨(some 10), .mv (.t 32), none, 590336, 2, []⟩]))))))
 (.seq (.reg [⟨(some 55), .mv (.t 9), none, 786432, 0, []⟩,
   ⟨(some 6), .mv (.t 55), none, 786688, 1, []⟩,
   ⟨(some 7), .mv (.k (.int .i64 0)), none, 786944, 2, []⟩])
 (.ret)))))))⟩
/-- loop.example/g00849/impl.OddShards -/
def F25 : F := ⟨3, 46, [.t 6, .t 7],
 .seq (.reg [⟨(some 3), .box (.t 0), none, 0, 0, []⟩,
   ⟨(some 6), .nil0 true 1, none, 256, 1, []⟩,
   ⟨(some 7), .mv (.k (.int .i64 0)), none, 512, 2, []⟩])
 (.seq (.seq (.reg [⟨(some 13), .load 2 true (.t 3), none, 65536, 0, []⟩,
   ⟨(some 14), .mv (.t 1), none, 65792, 1, []⟩,
   ⟨(some 15), .mv (.t 2), none, 66048, 2, []⟩,
   ⟨(some 16), .call 73 [(.t 13), (.t 14), (.t 15)] true, none, 66304, 3, []⟩,
   ⟨(some 8), .mv (.t 16), none, 66560, 4, []⟩])
 (.seq (.reg [⟨(some 17), .mv (.t 8), none, 131072, 0, []⟩,
   ⟨(some 18), .bin .neq (.t 17) (.k (.int .i64 0)), none, 131328, 1, []⟩])
 (.cond (.t 18)
  (.seq (.reg [⟨(some 19), .mv (.t 8), none, 196608, 0, []⟩,
    ⟨(some 6), .nil0 true 1, none, 196864, 1, []⟩,
    ⟨(some 7), .mv (.t 19), none, 197120, 2, []⟩])
  (.ret))
  (.skip))))
 (.seq (.reg [⟨(some 20), .load 2 true (.t 3), none, 262144, 0, []⟩,
   ⟨(some 21), .load 2 true (.t 3), none, 262400, 1, []⟩,
   ⟨(some 22), .mv (.t 2), none, 262656, 2, []⟩,
   ⟨(some 23), .call 75 [(.t 21), (.t 22)] false, none, 262912, 3, []⟩,
   ⟨(some 24), .call 80 [(.t 20), (.t 23)] false, none, 263168, 4, []⟩,
   ⟨(some 9), .mv (.t 24), none, 263424, 5, []⟩])
 (.seq (.reg [⟨(some 10), .nil0 true 1, none, 327680, 0, []⟩])
 (.seq (.seq (.reg [⟨(some 25), .mv (.t 2), none, 393216, 0, []⟩,
   ⟨(some 26), .len false (.t 25), none, 393472, 1, []⟩,
   ⟨(some 27), .mv (.k (.int .i64 0)), none, 393728, 2, []⟩])
 (.block 0 (.loop [9, 10, 25, 26, 27] [0, 1, 2, 3, 4, 5, 256, 196864, 262912, 262913, 262914, 262915, 263168, 263169, 263170, 263171, 327680]
  (.seq (.reg [⟨(some 28), .bin .lss (.t 27) (.t 26), none, 458752, 0, []⟩])
  (.seq (.cond (.t 28)
   (.skip)
   (.exit 0))
  (.seq (.block 1 (.seq (.reg [⟨(some 29), .iaddr 2 (.t 25) (.t 27), none, 524288, 0, []⟩,
    ⟨(some 30), .load 2 true (.t 29), none, 524544, 1, []⟩,
    ⟨(some 12), .alloc [(.int .i64 0), (.str ByteArray.empty)], none, 524800, 2, []⟩,
    ⟨none, .store 2 (.t 12) (.t 30), none, 525056, 3, []⟩])
  (.seq (.reg [⟨(some 31), .mv (.t 9), none, 589824, 0, []⟩,
    ⟨(some 32), .faddr 0 (.t 12), none, 590080, 1, []⟩,
    ⟨(some 33), .load 1 false (.t 32), none, 590336, 2, []⟩,
    ⟨(some 34), .iaddr 1 (.t 31) (.t 33), none, 590592, 3, []⟩,
    ⟨(some 35), .load 1 false (.t 34), none, 590848, 4, []⟩,
    ⟨(some 36), .faddr 1 (.t 12), none, 591104, 5, []⟩,
    ⟨(some 37), .load 1 false (.t 36), none, 591360, 6, []⟩,
    ⟨(some 38), .bin .neq (.t 35) (.t 37), none, 591616, 7, []⟩])
  (.cond (.t 38)
   (.reg [⟨(some 39), .mv (.t 10), none, 655360, 0, []⟩,
     ⟨(some 40), .faddr 0 (.t 12), none, 655616, 1, []⟩,
     ⟨(some 41), .load 1 false (.t 40), none, 655872, 2, []⟩,
     ⟨(some 42), .bslice true 1 [(.int .i64 0)] 1 [(0, (.t 41))], none, 656128, 3, []⟩,
     ⟨(some 43), .app true 1 8 (.t 39) (.t 42), none, 656384, 4, []⟩,
     ⟨(some 10), .mv (.t 43), none, 656640, 5, []⟩])
   (.skip)))))
  (.reg [⟨(some 44), .bin .add (.t 27) (.k (.int .i64 1)), none, 720896, 0, []⟩,
    ⟨(some 27), .mv (.t 44), none, 721152, 1, []⟩])))))))
 (.seq (.reg [⟨(some 45), .mv (.t 10), none, 786432, 0, []⟩,
   ⟨(some 6), .mv (.t 45), none, 786688, 1, []⟩,
   ⟨(some 7), .mv (.k (.int .i64 0)), none, 786944, 2, []⟩])
 (.ret))))))⟩
/-- loop.example/g00849/laws.eqInt64S -/
def F26 : F := ⟨2, 26, [.t 4],
 .seq (.reg [⟨(some 4), .mv (.k (.bool false)), none, 0, 0, []⟩])
 (.seq (.seq (.reg [⟨(some 6), .mv (.t 0), none, 65536, 0, []⟩,
   ⟨(some 7), .len false (.t 6), none, 65792, 1, []⟩,
   ⟨(some 8), .mv (.t 1), none, 66048, 2, []⟩,
   ⟨(some 9), .len false (.t 8), none, 66304, 3, []⟩,
   ⟨(some 10), .bin .neq (.t 7) (.t 9), none, 66560, 4, []⟩])
 (.cond (.t 10)
  (.seq (.reg [⟨(some 4), .mv (.k (.bool false)), none, 131072, 0, []⟩])
  (.ret))
  (.skip)))
 (.seq (.seq (.reg [⟨(some 5), .mv (.k (.int .i64 0)), none, 196608, 0, []⟩])
 (.block 0 (.loop [0, 1, 5] []
  (.seq (.seq (.reg [⟨(some 11), .mv (.t 5), none, 262144, 0, []⟩,
    ⟨(some 12), .mv (.t 0), none, 262400, 1, []⟩,
    ⟨(some 13), .len false (.t 12), none, 262656, 2, []⟩,
    ⟨(some 14), .bin .lss (.t 11) (.t 13), none, 262912, 3, []⟩])
  (.cond (.t 14)
   (.skip)
   (.exit 0)))
  (.seq (.block 1 (.seq (.reg [⟨(some 17), .mv (.t 0), none, 393216, 0, []⟩,
    ⟨(some 18), .mv (.t 5), none, 393472, 1, []⟩,
    ⟨(some 19), .iaddr 1 (.t 17) (.t 18), none, 393728, 2, []⟩,
    ⟨(some 20), .load 1 false (.t 19), none, 393984, 3, []⟩,
    ⟨(some 21), .mv (.t 1), none, 394240, 4, []⟩,
    ⟨(some 22), .mv (.t 5), none, 394496, 5, []⟩,
    ⟨(some 23), .iaddr 1 (.t 21) (.t 22), none, 394752, 6, []⟩,
    ⟨(some 24), .load 1 false (.t 23), none, 395008, 7, []⟩,
    ⟨(some 25), .bin .neq (.t 20) (.t 24), none, 395264, 8, []⟩])
  (.cond (.t 25)
   (.seq (.reg [⟨(some 4), .mv (.k (.bool false)), none, 458752, 0, []⟩])
   (.ret))
   (.skip))))
  (.reg [⟨(some 15), .mv (.t 5), none, 327680, 0, []⟩,
    ⟨(some 16), .bin .add (.t 15) (.k (.int .i64 1)), none, 327936, 1, []⟩,
    ⟨(some 5), .mv (.t 16), none, 328192, 2, []⟩]))))))
 (.seq (.reg [⟨(some 4), .mv (.k (.bool true)), none, 524288, 0, []⟩])
 (.ret))))⟩
/-- loop.example/g00849/laws.markShardS -/
def F27 : F := ⟨2, 28, [.t 4],
 .seq (.reg [⟨(some 4), .mv (.k (.int .i64 0)), none, 0, 0, []⟩])
 (.seq (.seq (.reg [⟨(some 5), .mv (.k (.int .i64 0)), none, 65536, 0, []⟩])
 (.block 0 (.loop [0, 1, 5] []
  (.seq (.seq (.reg [⟨(some 6), .mv (.t 5), none, 131072, 0, []⟩,
    ⟨(some 7), .mv (.t 0), none, 131328, 1, []⟩,
    ⟨(some 8), .len false (.t 7), none, 131584, 2, []⟩,
    ⟨(some 9), .bin .lss (.t 6) (.t 8), none, 131840, 3, []⟩])
  (.cond (.t 9)
   (.skip)
   (.exit 0)))
  (.seq (.block 1 (.seq (.reg [⟨(some 12), .mv (.t 0), none, 262144, 0, []⟩,
    ⟨(some 13), .mv (.t 5), none, 262400, 1, []⟩,
    ⟨(some 14), .mv (.t 1), none, 262656, 2, []⟩,
    ⟨(some 15), .iaddr 2 (.t 12) (.t 13), none, 262912, 3, []⟩,
    ⟨(some 16), .faddr 0 (.t 15), none, 263168, 4, []⟩,
    ⟨none, .store 1 (.t 16) (.t 14), none, 263424, 5, []⟩])
  (.seq (.reg [⟨(some 17), .mv (.t 1), none, 327680, 0, []⟩,
    ⟨(some 18), .bin .add (.t 17) (.k (.int .i64 1)), none, 327936, 1, []⟩,
    ⟨(some 1), .mv (.t 18), none, 328192, 2, []⟩])
  (.seq (.reg [⟨(some 19), .mv (.t 0), none, 393216, 0, []⟩,
    ⟨(some 20), .mv (.t 5), none, 393472, 1, []⟩,
    ⟨(some 21), .mv (.t 1), none, 393728, 2, []⟩,
    ⟨(some 22), .call 81 [(.t 21)] true, none, 393984, 3, []⟩,
    ⟨(some 23), .iaddr 2 (.t 19) (.t 20), none, 394240, 4, []⟩,
    ⟨(some 24), .faddr 1 (.t 23), none, 394496, 5, []⟩,
    ⟨none, .store 1 (.t 24) (.t 22), none, 394752, 6, []⟩])
  (.reg [⟨(some 25), .mv (.t 1), none, 458752, 0, []⟩,
    ⟨(some 26), .bin .add (.t 25) (.k (.int .i64 1)), none, 459008, 1, []⟩,
    ⟨(some 1), .mv (.t 26), none, 459264, 2, []⟩])))))
  (.reg [⟨(some 10), .mv (.t 5), none, 196608, 0, []⟩,
    ⟨(some 11), .bin .add (.t 10) (.k (.int .i64 1)), none, 196864, 1, []⟩,
    ⟨(some 5), .mv (.t 11), none, 197120, 2, []⟩]))))))
 (.seq (.reg [⟨(some 27), .mv (.t 1), none, 524288, 0, []⟩,
   ⟨(some 4), .mv (.t 27), none, 524544, 1, []⟩])
 (.ret)))⟩
/-- loop.example/g00849/laws.markInt64S -/
def F28 : F := ⟨2, 19, [.t 4],
 .seq (.reg [⟨(some 4), .mv (.k (.int .i64 0)), none, 0, 0, []⟩])
 (.seq (.seq (.reg [⟨(some 5), .mv (.k (.int .i64 0)), none, 65536, 0, []⟩])
 (.block 0 (.loop [0, 1, 5] []
  (.seq (.seq (.reg [⟨(some 6), .mv (.t 5), none, 131072, 0, []⟩,
    ⟨(some 7), .mv (.t 0), none, 131328, 1, []⟩,
    ⟨(some 8), .len false (.t 7), none, 131584, 2, []⟩,
    ⟨(some 9), .bin .lss (.t 6) (.t 8), none, 131840, 3, []⟩])
  (.cond (.t 9)
   (.skip)
   (.exit 0)))
  (.seq (.block 1 (.seq (.reg [⟨(some 12), .mv (.t 0), none, 262144, 0, []⟩,
    ⟨(some 13), .mv (.t 5), none, 262400, 1, []⟩,
    ⟨(some 14), .mv (.t 1), none, 262656, 2, []⟩,
    ⟨(some 15), .iaddr 1 (.t 12) (.t 13), none, 262912, 3, []⟩,
    ⟨none, .store 1 (.t 15) (.t 14), none, 263168, 4, []⟩])
  (.reg [⟨(some 16), .mv (.t 1), none, 327680, 0, []⟩,
    ⟨(some 17), .bin .add (.t 16) (.k (.int .i64 1)), none, 327936, 1, []⟩,
    ⟨(some 1), .mv (.t 17), none, 328192, 2, []⟩])))
  (.reg [⟨(some 10), .mv (.t 5), none, 196608, 0, []⟩,
    ⟨(some 11), .bin .add (.t 10) (.k (.int .i64 1)), none, 196864, 1, []⟩,
    ⟨(some 5), .mv (.t 11), none, 197120, 2, []⟩]))))))
 (.seq (.reg [⟨(some 18), .mv (.t 1), none, 393216, 0, []⟩,
   ⟨(some 4), .mv (.t 18), none, 393472, 1, []⟩])
 (.ret)))⟩
/-- loop.example/g00849/laws.heldInt64S -/
def F29 : F := ⟨2, 21, [.t 4],
 .seq (.reg [⟨(some 4), .mv (.k (.int .i64 0)), none, 0, 0, []⟩])
 (.seq (.seq (.reg [⟨(some 5), .mv (.k (.int .i64 0)), none, 65536, 0, []⟩])
 (.block 0 (.loop [0, 1, 5] []
  (.seq (.seq (.reg [⟨(some 6), .mv (.t 5), none, 131072, 0, []⟩,
    ⟨(some 7), .mv (.t 0), none, 131328, 1, []⟩,
    ⟨(some 8), .len false (.t 7), none, 131584, 2, []⟩,
    ⟨(some 9), .bin .lss (.t 6) (.t 8), none, 131840, 3, []⟩])
  (.cond (.t 9)
   (.skip)
   (.exit 0)))
  (.seq (.block 1 (.seq (.seq (.reg [⟨(some 12), .mv (.t 0), none, 262144, 0, []⟩,
    ⟨(some 13), .mv (.t 5), none, 262400, 1, []⟩,
    ⟨(some 14), .iaddr 1 (.t 12) (.t 13), none, 262656, 2, []⟩,
    ⟨(some 15), .load 1 false (.t 14), none, 262912, 3, []⟩,
    ⟨(some 16), .mv (.t 1), none, 263168, 4, []⟩,
    ⟨(some 17), .bin .neq (.t 15) (.t 16), none, 263424, 5, []⟩])
  (.cond (.t 17)
   (.seq (.reg [⟨(some 4), .mv (.k (.int .i64 (-1))), none, 327680, 0, []⟩])
   (.ret))
   (.skip)))
  (.reg [⟨(some 18), .mv (.t 1), none, 393216, 0, []⟩,
    ⟨(some 19), .bin .add (.t 18) (.k (.int .i64 1)), none, 393472, 1, []⟩,
    ⟨(some 1), .mv (.t 19), none, 393728, 2, []⟩])))
  (.reg [⟨(some 10), .mv (.t 5), none, 196608, 0, []⟩,
    ⟨(some 11), .bin .add (.t 10) (.k (.int .i64 1)), none, 196864, 1, []⟩,
    ⟨(some 5), .mv (.t 11), none, 197120, 2, []⟩]))))))
 (.seq (.reg [⟨(some 20), .mv (.t 1), none, 458752, 0, []⟩,
   ⟨(some 4), .mv (.t 20), none, 459008, 1, []⟩])
 (.ret)))⟩
/-- loop.example/g00849/spec.A8Code -/
def F30 : F := ⟨1, 8, [.cell 2 2 true],
 .seq (.reg [⟨(some 2), .alloc [(.int .i64 0), (.int .i64 0)], none, 0, 0, []⟩])
 (.seq (.reg [⟨(some 4), .mv (.t 0), none, 65536, 0, []⟩,
   ⟨(some 5), .call 82 [(.t 4)] false, none, 65792, 1, []⟩,
   ⟨(some 3), .mv (.t 5), none, 66048, 2, []⟩])
 (.seq (.reg [⟨(some 6), .mv (.t 3), none, 131072, 0, []⟩,
   ⟨(some 7), .call 83 [(.t 6)] true, none, 131328, 1, []⟩,
   ⟨none, .store 2 (.t 2) (.t 7), none, 131584, 2, []⟩])
 (.ret)))⟩
/-- loop.example/g00849/laws.a8Body -/
def F31 : F := ⟨1, 15, [.t 2],
 .seq (.reg [⟨(some 2), .mv (.k (.str ByteArray.empty)), none, 0, 0, []⟩])
 (.seq (.reg [⟨(some 4), .mv (.t 0), none, 65536, 0, []⟩,
   ⟨(some 5), .call 65 [(.t 4)] true, none, 65792, 1, []⟩,
   ⟨(some 6), .mv (.t 0), none, 66048, 2, []⟩,
   ⟨(some 7), .call 66 [(.k (.int .i64 7)), (.t 6)] false, none, 66304, 3, []⟩,
   ⟨(some 8), .call 65 [(.t 7)] true, none, 66560, 4, []⟩,
   ⟨(some 9), .bin .add (.t 5) (.t 8), none, 66816, 5, []⟩,
   ⟨(some 3), .mv (.t 9), none, 67072, 6, []⟩])
 (.seq (.reg [⟨(some 10), .mv (.t 3), none, 131072, 0, []⟩,
   ⟨(some 11), .mv (.t 3), none, 131328, 1, []⟩,
   ⟨(some 12), .len true (.t 11), none, 131584, 2, []⟩,
   ⟨(some 13), .min (.t 12) (.k (.int .i64 64)), none, 131840, 3, []⟩,
   ⟨(some 14), .scut (.t 10) none (some (.t 13)), none, 132096, 4, []⟩,
   ⟨(some 2), .mv (.t 14), none, 132352, 5, []⟩])
 (.ret)))⟩
/-- loop.example/g00849/impl.ShardsOf -/
def F32 : F := ⟨2, 17, [.t 4, .t 5],
 .seq (.reg [⟨(some 2), .box (.t 0), none, 0, 0, []⟩,
   ⟨(some 4), .nil0 true 1, none, 256, 1, []⟩,
   ⟨(some 5), .mv (.k (.bool false)), none, 512, 2, []⟩])
 (.seq (.seq (.reg [⟨(some 6), .load 2 true (.t 2), none, 65536, 0, []⟩,
   ⟨(some 7), .call 84 [(.t 6)] true, none, 65792, 1, []⟩,
   ⟨(some 8), .not (.t 7), none, 66048, 2, []⟩,
   ⟨(some 9), .mv (.t 8), none, 66304, 3, []⟩,
   ⟨(some 10), .mv (.t 1), (some (some 9, false)), 66560, 4, []⟩,
   ⟨(some 11), .len true (.t 10), (some (some 9, false)), 66816, 5, []⟩,
   ⟨(some 12), .bin .gtr (.t 11) (.k (.int .i64 64)), (some (some 9, false)), 67072, 6, []⟩,
   ⟨(some 13), .pick (.t 9) (.k (.bool true)) (.t 12), none, 67328, 7, []⟩])
 (.cond (.t 13)
  (.seq (.reg [⟨(some 4), .nil0 true 1, none, 131072, 0, []⟩,
    ⟨(some 5), .mv (.k (.bool false)), none, 131328, 1, []⟩])
  (.ret))
  (.skip)))
 (.seq (.reg [⟨(some 14), .load 2 true (.t 2), none, 196608, 0, []⟩,
   ⟨(some 15), .mv (.t 1), none, 196864, 1, []⟩,
   ⟨(some 16), .call 85 [(.t 14), (.t 15)] false, none, 197120, 2, []⟩,
   ⟨(some 4), .mv (.t 16), none, 197376, 3, []⟩,
   ⟨(some 5), .mv (.k (.bool true)), none, 197632, 4, []⟩])
 (.ret)))⟩
/-- loop.example/g00849/laws.a8At -/
def F33 : F := ⟨3, 42, [.t 6],
 .seq (.reg [⟨(some 6), .mv (.k (.int .i64 0)), none, 0, 0, []⟩])
 (.seq (.seq (.reg [⟨(some 8), .mv (.t 2), none, 65536, 0, []⟩,
   ⟨(some 9), .bin .leq (.t 8) (.k (.int .i64 1)), none, 65792, 1, []⟩])
 (.cond (.t 9)
  (.seq (.reg [⟨(some 6), .mv (.k (.int .i64 0)), none, 131072, 0, []⟩])
  (.ret))
  (.skip)))
 (.seq (.seq (.reg [⟨(some 10), .mv (.t 0), none, 196608, 0, []⟩,
   ⟨(some 11), .len false (.t 10), none, 196864, 1, []⟩,
   ⟨(some 12), .bin .eql (.t 11) (.k (.int .i64 0)), none, 197120, 2, []⟩])
 (.cond (.t 12)
  (.seq (.reg [⟨(some 13), .mv (.t 1), none, 262144, 0, []⟩,
    ⟨(some 14), .bin .mul (.t 13) (.k (.int .i64 7)), none, 262400, 1, []⟩,
    ⟨(some 15), .mv (.t 2), none, 262656, 2, []⟩,
    ⟨(some 16), .bin .rem (.t 14) (.t 15), none, 262912, 3, []⟩,
    ⟨(some 6), .mv (.t 16), none, 263168, 4, []⟩])
  (.ret))
  (.skip)))
 (.seq (.reg [⟨(some 17), .mv (.t 0), none, 327680, 0, []⟩,
   ⟨(some 18), .len false (.t 17), none, 327936, 1, []⟩,
   ⟨(some 7), .mv (.t 18), none, 328192, 2, []⟩])
 (.seq (.reg [⟨(some 19), .mv (.t 0), none, 393216, 0, []⟩,
   ⟨(some 20), .mv (.t 1), none, 393472, 1, []⟩,
   ⟨(some 21), .mv (.t 7), none, 393728, 2, []⟩,
   ⟨(some 22), .bin .rem (.t 20) (.t 21), none, 393984, 3, []⟩,
   ⟨(some 23), .iaddr 1 (.t 19) (.t 22), none, 394240, 4, []⟩,
   ⟨(some 24), .load 1 false (.t 23), none, 394496, 5, []⟩,
   ⟨(some 25), .conv .i64 (.t 24), none, 394752, 6, []⟩,
   ⟨(some 26), .bin .mul (.t 25) (.k (.int .i64 31)), none, 395008, 7, []⟩,
   ⟨(some 27), .mv (.t 0), none, 395264, 8, []⟩,
   ⟨(some 28), .mv (.t 1), none, 395520, 9, []⟩,
   ⟨(some 29), .bin .add (.t 28) (.k (.int .i64 1)), none, 395776, 10, []⟩,
   ⟨(some 30), .mv (.t 7), none, 396032, 11, []⟩,
   ⟨(some 31), .bin .rem (.t 29) (.t 30), none, 396288, 12, []⟩,
   ⟨(some 32), .iaddr 1 (.t 27) (.t 31), none, 396544, 13, []⟩,
   ⟨(some 33), .load 1 false (.t 32), none, 396800, 14, []⟩,
   ⟨(some 34), .conv .i64 (.t 33), none, 397056, 15, []⟩,
   ⟨(some 35), .bin .add (.t 26) (.t 34), none, 397312, 16, []⟩,
   ⟨(some 36), .mv (.t 1), none, 397568, 17, []⟩,
   ⟨(some 37), .mv (.t 7), none, 397824, 18, []⟩,
   ⟨(some 38), .bin .quo (.t 36) (.t 37), none, 398080, 19, []⟩,
   ⟨(some 39), .bin .add (.t 35) (.t 38), none, 398336, 20, []⟩,
   ⟨(some 40), .mv (.t 2), none, 398592, 21, []⟩,
   ⟨(some 41), .bin .rem (.t 39) (.t 40), none, 398848, 22, []⟩,
   ⟨(some 6), .mv (.t 41), none, 399104, 23, []⟩])
 (.ret)))))⟩
/-- loop.example/g00849/laws.a8Have -/
def F34 : F := ⟨2, 39, [.t 4, .t 5],
 .seq (.reg [⟨(some 4), .nil0 true 2, none, 0, 0, []⟩,
   ⟨(some 5), .mv (.k (.bool false)), none, 256, 1, []⟩])
 (.seq (.reg [⟨(some 8), .bslice true 2 [(.int .i64 0), (.str ByteArray.empty)] 0 [], none, 65536, 0, []⟩,
   ⟨(some 6), .mv (.t 8), none, 65792, 1, []⟩])
 (.seq (.seq (.reg [⟨(some 7), .mv (.k (.int .i64 0)), none, 131072, 0, []⟩])
 (.block 0 (.loop [0, 1, 6, 7] [0, 65536]
  (.seq (.seq (.reg [⟨(some 9), .mv (.t 7), none, 196608, 0, []⟩,
    ⟨(some 10), .mv (.t 1), none, 196864, 1, []⟩,
    ⟨(some 11), .len false (.t 10), none, 197120, 2, []⟩,
    ⟨(some 12), .bin .lss (.t 9) (.t 11), none, 197376, 3, []⟩])
  (.cond (.t 12)
   (.skip)
   (.exit 0)))
  (.seq (.block 1 (.seq (.seq (.reg [⟨(some 15), .mv (.t 1), none, 327680, 0, []⟩,
    ⟨(some 16), .mv (.t 7), none, 327936, 1, []⟩,
    ⟨(some 17), .iaddr 1 (.t 15) (.t 16), none, 328192, 2, []⟩,
    ⟨(some 18), .load 1 false (.t 17), none, 328448, 3, []⟩,
    ⟨(some 19), .mv (.t 0), none, 328704, 4, []⟩,
    ⟨(some 20), .len false (.t 19), none, 328960, 5, []⟩,
    ⟨(some 21), .bin .geq (.t 18) (.t 20), none, 329216, 6, []⟩])
  (.cond (.t 21)
   (.seq (.reg [⟨(some 22), .mv (.t 6), none, 393216, 0, []⟩,
     ⟨(some 4), .mv (.t 22), none, 393472, 1, []⟩,
     ⟨(some 5), .mv (.k (.bool false)), none, 393728, 2, []⟩])
   (.ret))
   (.skip)))
  (.reg [⟨(some 23), .mv (.t 6), none, 458752, 0, []⟩,
    ⟨(some 24), .mv (.t 1), none, 459008, 1, []⟩,
    ⟨(some 25), .mv (.t 7), none, 459264, 2, []⟩,
    ⟨(some 26), .iaddr 1 (.t 24) (.t 25), none, 459520, 3, []⟩,
    ⟨(some 27), .load 1 false (.t 26), none, 459776, 4, []⟩,
    ⟨(some 28), .mv (.t 0), none, 460032, 5, []⟩,
    ⟨(some 29), .mv (.t 1), none, 460288, 6, []⟩,
    ⟨(some 30), .mv (.t 7), none, 460544, 7, []⟩,
    ⟨(some 31), .iaddr 1 (.t 29) (.t 30), none, 460800, 8, []⟩,
    ⟨(some 32), .load 1 false (.t 31), none, 461056, 9, []⟩,
    ⟨(some 33), .iaddr 1 (.t 28) (.t 32), none, 461312, 10, []⟩,
    ⟨(some 34), .load 1 false (.t 33), none, 461568, 11, []⟩,
    ⟨(some 35), .build [(.int .i64 0), (.str ByteArray.empty)] [(0, 1, (.t 27)), (1, 1, (.t 34))], none, 461824, 12, []⟩,
    ⟨(some 36), .bslice true 2 [(.int .i64 0), (.str ByteArray.empty)] 1 [(0, (.t 35))], none, 462080, 13, []⟩,
    ⟨(some 37), .app true 2 24 (.t 23) (.t 36), none, 462336, 14, []⟩,
    ⟨(some 6), .mv (.t 37), none, 462592, 15, []⟩])))
  (.reg [⟨(some 13), .mv (.t 7), none, 262144, 0, []⟩,
    ⟨(some 14), .bin .add (.t 13) (.k (.int .i64 1)), none, 262400, 1, []⟩,
    ⟨(some 7), .mv (.t 14), none, 262656, 2, []⟩]))))))
 (.seq (.reg [⟨(some 38), .mv (.t 6), none, 524288, 0, []⟩,
   ⟨(some 4), .mv (.t 38), none, 524544, 1, []⟩,
   ⟨(some 5), .mv (.k (.bool true)), none, 524800, 2, []⟩])
 (.ret))))⟩
/-- loop.example/g00849/laws.a8Places -/
def F35 : F := ⟨3, 44, [.t 6],
 .seq (.reg [⟨(some 6), .nil0 true 1, none, 0, 0, []⟩])
 (.seq (.reg [⟨(some 11), .bslice true 1 [(.int .i64 0)] 0 [], none, 65536, 0, []⟩,
   ⟨(some 7), .mv (.t 11), none, 65792, 1, []⟩])
 (.seq (.seq (.reg [⟨(some 8), .mv (.k (.int .i64 0)), none, 131072, 0, []⟩])
 (.block 0 (.loop [0, 1, 2, 7, 8] [0, 65536]
  (.seq (.seq (.reg [⟨(some 12), .mv (.t 8), none, 196608, 0, []⟩,
    ⟨(some 13), .mv (.t 2), none, 196864, 1, []⟩,
    ⟨(some 14), .bin .lss (.t 12) (.t 13), none, 197120, 2, []⟩])
  (.cond (.t 14)
   (.skip)
   (.exit 0)))
  (.seq (.block 1 (.seq (.reg [⟨(some 17), .mv (.t 2), none, 327680, 0, []⟩,
    ⟨(some 18), .mv (.t 8), none, 327936, 1, []⟩,
    ⟨(some 19), .bin .sub (.t 17) (.t 18), none, 328192, 2, []⟩,
    ⟨(some 9), .mv (.t 19), none, 328448, 3, []⟩])
  (.seq (.reg [⟨(some 20), .mv (.t 1), none, 393216, 0, []⟩,
    ⟨(some 21), .mv (.t 7), none, 393472, 1, []⟩,
    ⟨(some 22), .len false (.t 21), none, 393728, 2, []⟩,
    ⟨(some 23), .bin .sub (.t 20) (.t 22), none, 393984, 3, []⟩,
    ⟨(some 10), .mv (.t 23), none, 394240, 4, []⟩])
  (.seq (.reg [⟨(some 24), .mv (.t 10), none, 458752, 0, []⟩,
    ⟨(some 25), .bin .gtr (.t 24) (.k (.int .i64 0)), none, 459008, 1, []⟩,
    ⟨(some 26), .mv (.t 25), none, 459264, 2, []⟩,
    ⟨(some 27), .mv (.t 9), (some (some 26, true)), 459520, 3, []⟩,
    ⟨(some 28), .mv (.t 10), (some (some 26, true)), 459776, 4, []⟩,
    ⟨(some 29), .bin .eql (.t 27) (.t 28), (some (some 26, true)), 460032, 5, []⟩,
    ⟨(some 30), .mv (.t 29), (some (some 26, true)), 460288, 6, []⟩,
    ⟨(some 31), .mv (.t 0), (some (some 30, false)), 460544, 7, []⟩,
    ⟨(some 32), .mv (.t 8), (some (some 30, false)), 460800, 8, []⟩,
    ⟨(some 33), .mv (.t 9), (some (some 30, false)), 461056, 9, []⟩,
    ⟨(some 34), .call 33 [(.t 31), (.t 32), (.t 33)] true, (some (some 30, false)), 461312, 10, []⟩,
    ⟨(some 35), .mv (.t 10), (some (some 30, false)), 461568, 11, []⟩,
    ⟨(some 36), .bin .lss (.t 34) (.t 35), (some (some 30, false)), 461824, 12, []⟩,
    ⟨(some 37), .pick (.t 30) (.k (.bool true)) (.t 36), (some (some 26, true)), 462080, 13, []⟩,
    ⟨(some 38), .pick (.t 26) (.t 37) (.k (.bool false)), none, 462336, 14, []⟩])
  (.cond (.t 38)
   (.reg [⟨(some 39), .mv (.t 7), none, 524288, 0, []⟩,
     ⟨(some 40), .mv (.t 8), none, 524544, 1, []⟩,
     ⟨(some 41), .bslice true 1 [(.int .i64 0)] 1 [(0, (.t 40))], none, 524800, 2, []⟩,
     ⟨(some 42), .app true 1 8 (.t 39) (.t 41), none, 525056, 3, []⟩,
     ⟨(some 7), .mv (.t 42), none, 525312, 4, []⟩])
   (.skip))))))
  (.reg [⟨(some 15), .mv (.t 8), none, 262144, 0, []⟩,
    ⟨(some 16), .bin .add (.t 15) (.k (.int .i64 1)), none, 262400, 1, []⟩,
    ⟨(some 8), .mv (.t 16), none, 262656, 2, []⟩]))))))
 (.seq (.reg [⟨(some 43), .mv (.t 7), none, 589824, 0, []⟩,
   ⟨(some 6), .mv (.t 43), none, 590080, 1, []⟩])
 (.ret))))⟩
/-- loop.example/g00849/impl.HaveOk -/
def F36 : F := ⟨3, 54, [.t 6],
 .seq (.reg [⟨(some 3), .box (.t 0), none, 0, 0, []⟩,
   ⟨(some 6), .mv (.k (.bool false)), none, 256, 1, []⟩])
 (.seq (.seq (.reg [⟨(some 9), .load 2 true (.t 3), none, 65536, 0, []⟩,
   ⟨(some 10), .call 84 [(.t 9)] true, none, 65792, 1, []⟩,
   ⟨(some 11), .not (.t 10), none, 66048, 2, []⟩,
   ⟨(some 12), .mv (.t 11), none, 66304, 3, []⟩,
   ⟨(some 13), .mv (.t 1), (some (some 12, false)), 66560, 4, []⟩,
   ⟨(some 14), .call 86 [(.t 13), (.k (.int .i64 0)), (.k (.int .i64 64))] true, (some (some 12, false)), 66816, 5, []⟩,
   ⟨(some 15), .not (.t 14), (some (some 12, false)), 67072, 6, []⟩,
   ⟨(some 16), .pick (.t 12) (.k (.bool true)) (.t 15), none, 67328, 7, []⟩])
 (.cond (.t 16)
  (.seq (.reg [⟨(some 6), .mv (.k (.bool false)), none, 131072, 0, []⟩])
  (.ret))
  (.skip)))
 (.seq (.seq (.reg [⟨(some 17), .mv (.t 2), none, 196608, 0, []⟩,
   ⟨(some 18), .len false (.t 17), none, 196864, 1, []⟩,
   ⟨(some 19), .mv (.k (.int .i64 0)), none, 197120, 2, []⟩])
 (.block 0 (.loop [1, 2, 3, 17, 18, 19] [0, 1, 2, 3, 4, 5]
  (.seq (.reg [⟨(some 20), .bin .lss (.t 19) (.t 18), none, 262144, 0, []⟩])
  (.seq (.cond (.t 20)
   (.skip)
   (.exit 0))
  (.seq (.block 1 (.seq (.reg [⟨(some 21), .mv (.t 19), none, 327680, 0, []⟩,
    ⟨(some 22), .iaddr 2 (.t 17) (.t 19), none, 327936, 1, []⟩,
    ⟨(some 23), .load 2 true (.t 22), none, 328192, 2, []⟩,
    ⟨(some 8), .alloc [(.int .i64 0), (.str ByteArray.empty)], none, 328448, 3, []⟩,
    ⟨(some 7), .mv (.t 21), none, 328704, 4, []⟩,
    ⟨none, .store 2 (.t 8) (.t 23), none, 328960, 5, []⟩])
  (.seq (.reg [⟨(some 24), .load 2 true (.t 3), none, 393216, 0, []⟩,
    ⟨(some 25), .faddr 0 (.t 8), none, 393472, 1, []⟩,
    ⟨(some 26), .load 1 false (.t 25), none, 393728, 2, []⟩,
    ⟨(some 27), .call 79 [(.t 24), (.t 26)] true, none, 393984, 3, []⟩,
    ⟨(some 28), .not (.t 27), none, 394240, 4, []⟩,
    ⟨(some 29), .mv (.t 28), none, 394496, 5, []⟩,
    ⟨(some 30), .mv (.t 7), (some (some 29, false)), 394752, 6, []⟩,
    ⟨(some 31), .bin .gtr (.t 30) (.k (.int .i64 0)), (some (some 29, false)), 395008, 7, []⟩,
    ⟨(some 32), .mv (.t 31), (some (some 29, false)), 395264, 8, []⟩,
    ⟨(some 33), .faddr 0 (.t 8), (some (some 32, true)), 395520, 9, []⟩,
    ⟨(some 34), .load 1 false (.t 33), (some (some 32, true)), 395776, 10, []⟩,
    ⟨(some 35), .mv (.t 2), (some (some 32, true)), 396032, 11, []⟩,
    ⟨(some 36), .mv (.t 7), (some (some 32, true)), 396288, 12, []⟩,
    ⟨(some 37), .bin .sub (.t 36) (.k (.int .i64 1)), (some (some 32, true)), 396544, 13, []⟩,
    ⟨(some 38), .iaddr 2 (.t 35) (.t 37), (some (some 32, true)), 396800, 14, []⟩,
    ⟨(some 39), .faddr 0 (.t 38), (some (some 32, true)), 397056, 15, []⟩,
    ⟨(some 40), .load 1 false (.t 39), (some (some 32, true)), 397312, 16, []⟩,
    ⟨(some 41), .bin .leq (.t 34) (.t 40), (some (some 32, true)), 397568, 17, []⟩,
    ⟨(some 42), .pick (.t 32) (.t 41) (.k (.bool false)), (some (some 29, false)), 397824, 18, []⟩,
    ⟨(some 43), .pick (.t 29) (.k (.bool true)) (.t 42), none, 398080, 19, []⟩,
    ⟨(some 44), .mv (.t 43), none, 398336, 20, []⟩,
    ⟨(some 45), .faddr 1 (.t 8), (some (some 44, false)), 398592, 21, []⟩,
    ⟨(some 46), .load 1 false (.t 45), (some (some 44, false)), 398848, 22, []⟩,
    ⟨(some 47), .len true (.t 46), (some (some 44, false)), 399104, 23, []⟩,
    ⟨(some 48), .load 2 true (.t 3), (some (some 44, false)), 399360, 24, []⟩,
    ⟨(some 49), .mv (.t 1), (some (some 44, false)), 399616, 25, []⟩,
    ⟨(some 50), .call 87 [(.t 48), (.t 49)] true, (some (some 44, false)), 399872, 26, []⟩,
    ⟨(some 51), .bin .neq (.t 47) (.t 50), (some (some 44, false)), 400128, 27, []⟩,
    ⟨(some 52), .pick (.t 44) (.k (.bool true)) (.t 51), none, 400384, 28, []⟩])
  (.cond (.t 52)
   (.seq (.reg [⟨(some 6), .mv (.k (.bool false)), none, 458752, 0, []⟩])
   (.ret))
   (.skip)))))
  (.reg [⟨(some 53), .bin .add (.t 19) (.k (.int .i64 1)), none, 524288, 0, []⟩,
    ⟨(some 19), .mv (.t 53), none, 524544, 1, []⟩])))))))
 (.seq (.reg [⟨(some 6), .mv (.k (.bool true)), none, 589824, 0, []⟩])
 (.ret))))⟩
/-- loop.example/g00849/impl.PieceSize -/
def F37 : F := ⟨2, 17, [.t 4, .t 5],
 .seq (.reg [⟨(some 2), .box (.t 0), none, 0, 0, []⟩,
   ⟨(some 4), .mv (.k (.int .i64 0)), none, 256, 1, []⟩,
   ⟨(some 5), .mv (.k (.int .i64 0)), none, 512, 2, []⟩])
 (.seq (.block 0 (.seq (.reg [⟨(some 7), .load 2 true (.t 2), none, 65536, 0, []⟩,
   ⟨(some 8), .call 84 [(.t 7)] true, none, 65792, 1, []⟩,
   ⟨(some 9), .not (.t 8), none, 66048, 2, []⟩,
   ⟨(some 6), .mv (.t 9), none, 66304, 3, []⟩])
 (.cond (.t 6)
  (.seq (.reg [⟨(some 4), .mv (.k (.int .i64 0)), none, 131072, 0, []⟩,
    ⟨(some 5), .mv (.k (.int .i64 1)), none, 131328, 1, []⟩])
  (.ret))
  (.seq (.reg [⟨(some 11), .mv (.t 1), none, 196608, 0, []⟩,
    ⟨(some 12), .call 86 [(.t 11), (.k (.int .i64 0)), (.k (.int .i64 64))] true, none, 196864, 1, []⟩,
    ⟨(some 13), .not (.t 12), none, 197120, 2, []⟩,
    ⟨(some 10), .mv (.t 13), none, 197376, 3, []⟩])
  (.cond (.t 10)
   (.seq (.reg [⟨(some 4), .mv (.k (.int .i64 0)), none, 262144, 0, []⟩,
     ⟨(some 5), .mv (.k (.int .i64 2)), none, 262400, 1, []⟩])
   (.ret))
   (.skip))))))
 (.seq (.reg [⟨(some 14), .load 2 true (.t 2), none, 327680, 0, []⟩,
   ⟨(some 15), .mv (.t 1), none, 327936, 1, []⟩,
   ⟨(some 16), .call 87 [(.t 14), (.t 15)] true, none, 328192, 2, []⟩,
   ⟨(some 4), .mv (.t 16), none, 328448, 3, []⟩,
   ⟨(some 5), .mv (.k (.int .i64 0)), none, 328704, 4, []⟩])
 (.ret)))⟩
/-- loop.example/g00849/impl.ShardAt -/
def F38 : F := ⟨3, 27, [.t 6, .t 7],
 .seq (.reg [⟨(some 3), .box (.t 0), none, 0, 0, []⟩,
   ⟨(some 6), .mv (.k (.str ByteArray.empty)), none, 256, 1, []⟩,
   ⟨(some 7), .mv (.k (.int .i64 0)), none, 512, 2, []⟩])
 (.seq (.block 0 (.seq (.reg [⟨(some 9), .load 2 true (.t 3), none, 65536, 0, []⟩,
   ⟨(some 10), .call 84 [(.t 9)] true, none, 65792, 1, []⟩,
   ⟨(some 11), .not (.t 10), none, 66048, 2, []⟩,
   ⟨(some 8), .mv (.t 11), none, 66304, 3, []⟩])
 (.cond (.t 8)
  (.seq (.reg [⟨(some 6), .mv (.k (.str ByteArray.empty)), none, 131072, 0, []⟩,
    ⟨(some 7), .mv (.k (.int .i64 1)), none, 131328, 1, []⟩])
  (.ret))
  (.seq (.reg [⟨(some 13), .mv (.t 1), none, 196608, 0, []⟩,
    ⟨(some 14), .len true (.t 13), none, 196864, 1, []⟩,
    ⟨(some 15), .bin .gtr (.t 14) (.k (.int .i64 64)), none, 197120, 2, []⟩,
    ⟨(some 12), .mv (.t 15), none, 197376, 3, []⟩])
  (.cond (.t 12)
   (.seq (.reg [⟨(some 6), .mv (.k (.str ByteArray.empty)), none, 262144, 0, []⟩,
     ⟨(some 7), .mv (.k (.int .i64 4)), none, 262400, 1, []⟩])
   (.ret))
   (.seq (.reg [⟨(some 17), .load 2 true (.t 3), none, 327680, 0, []⟩,
     ⟨(some 18), .mv (.t 2), none, 327936, 1, []⟩,
     ⟨(some 19), .call 79 [(.t 17), (.t 18)] true, none, 328192, 2, []⟩,
     ⟨(some 20), .not (.t 19), none, 328448, 3, []⟩,
     ⟨(some 16), .mv (.t 20), none, 328704, 4, []⟩])
   (.cond (.t 16)
    (.seq (.reg [⟨(some 6), .mv (.k (.str ByteArray.empty)), none, 393216, 0, []⟩,
      ⟨(some 7), .mv (.k (.int .i64 2)), none, 393472, 1, []⟩])
    (.ret))
    (.skip))))))))
 (.seq (.reg [⟨(some 21), .load 2 true (.t 3), none, 458752, 0, []⟩,
   ⟨(some 22), .mv (.t 1), none, 459008, 1, []⟩,
   ⟨(some 23), .call 85 [(.t 21), (.t 22)] false, none, 459264, 2, []⟩,
   ⟨(some 24), .mv (.t 2), none, 459520, 3, []⟩,
   ⟨(some 25), .iaddr 1 (.t 23) (.t 24), none, 459776, 4, []⟩,
   ⟨(some 26), .load 1 false (.t 25), none, 460032, 5, []⟩,
   ⟨(some 6), .mv (.t 26), none, 460288, 6, []⟩,
   ⟨(some 7), .mv (.k (.int .i64 0)), none, 460544, 7, []⟩])
 (.ret)))⟩
/-- loop.example/g00849/laws.a8Turn -/
def F39 : F := ⟨2, 29, [.t 4],
 .seq (.reg [⟨(some 4), .mv (.k (.str ByteArray.empty)), none, 0, 0, []⟩])
 (.seq (.reg [⟨(some 6), .mv (.t 1), none, 65536, 0, []⟩,
   ⟨(some 7), .mv (.t 0), none, 65792, 1, []⟩,
   ⟨(some 8), .len true (.t 7), none, 66048, 2, []⟩,
   ⟨(some 9), .call 33 [(.t 6), (.k (.int .i64 3)), (.t 8)] true, none, 66304, 3, []⟩,
   ⟨(some 5), .mv (.t 9), none, 66560, 4, []⟩])
 (.seq (.reg [⟨(some 10), .mv (.t 0), none, 131072, 0, []⟩,
   ⟨(some 11), .mv (.t 5), none, 131328, 1, []⟩,
   ⟨(some 12), .scut (.t 10) none (some (.t 11)), none, 131584, 2, []⟩,
   ⟨(some 13), .mv (.t 0), none, 131840, 3, []⟩,
   ⟨(some 14), .mv (.t 5), none, 132096, 4, []⟩,
   ⟨(some 15), .idx (.t 13) (.t 14), none, 132352, 5, []⟩,
   ⟨(some 16), .mv (.t 1), none, 132608, 6, []⟩,
   ⟨(some 17), .call 33 [(.t 16), (.k (.int .i64 5)), (.k (.int .i64 255))] true, none, 132864, 7, []⟩,
   ⟨(some 18), .bin .add (.k (.int .i64 1)) (.t 17), none, 133120, 8, []⟩,
   ⟨(some 19), .conv .u8 (.t 18), none, 133376, 9, []⟩,
   ⟨(some 20), .bin .xor (.t 15) (.t 19), none, 133632, 10, []⟩,
   ⟨(some 21), .bslice true 1 [(.int .u8 0)] 1 [(0, (.t 20))], none, 133888, 11, []⟩,
   ⟨(some 22), .b2s (.t 21), none, 134144, 12, []⟩,
   ⟨(some 23), .bin .add (.t 12) (.t 22), none, 134400, 13, []⟩,
   ⟨(some 24), .mv (.t 0), none, 134656, 14, []⟩,
   ⟨(some 25), .mv (.t 5), none, 134912, 15, []⟩,
   ⟨(some 26), .bin .add (.t 25) (.k (.int .i64 1)), none, 135168, 16, []⟩,
   ⟨(some 27), .scut (.t 24) (some (.t 26)) none, none, 135424, 17, []⟩,
   ⟨(some 28), .bin .add (.t 23) (.t 27), none, 135680, 18, []⟩,
   ⟨(some 4), .mv (.t 28), none, 135936, 19, []⟩])
 (.ret)))⟩
/-- loop.example/g00849/laws.a8Same -/
def F40 : F := ⟨2, 26, [.t 4],
 .seq (.reg [⟨(some 4), .mv (.k (.bool false)), none, 0, 0, []⟩])
 (.seq (.seq (.reg [⟨(some 6), .mv (.t 0), none, 65536, 0, []⟩,
   ⟨(some 7), .len false (.t 6), none, 65792, 1, []⟩,
   ⟨(some 8), .mv (.t 1), none, 66048, 2, []⟩,
   ⟨(some 9), .len false (.t 8), none, 66304, 3, []⟩,
   ⟨(some 10), .bin .neq (.t 7) (.t 9), none, 66560, 4, []⟩])
 (.cond (.t 10)
  (.seq (.reg [⟨(some 4), .mv (.k (.bool false)), none, 131072, 0, []⟩])
  (.ret))
  (.skip)))
 (.seq (.seq (.reg [⟨(some 5), .mv (.k (.int .i64 0)), none, 196608, 0, []⟩])
 (.block 0 (.loop [0, 1, 5] []
  (.seq (.seq (.reg [⟨(some 11), .mv (.t 5), none, 262144, 0, []⟩,
    ⟨(some 12), .mv (.t 0), none, 262400, 1, []⟩,
    ⟨(some 13), .len false (.t 12), none, 262656, 2, []⟩,
    ⟨(some 14), .bin .lss (.t 11) (.t 13), none, 262912, 3, []⟩])
  (.cond (.t 14)
   (.skip)
   (.exit 0)))
  (.seq (.block 1 (.seq (.reg [⟨(some 17), .mv (.t 0), none, 393216, 0, []⟩,
    ⟨(some 18), .mv (.t 5), none, 393472, 1, []⟩,
    ⟨(some 19), .iaddr 1 (.t 17) (.t 18), none, 393728, 2, []⟩,
    ⟨(some 20), .load 1 false (.t 19), none, 393984, 3, []⟩,
    ⟨(some 21), .mv (.t 1), none, 394240, 4, []⟩,
    ⟨(some 22), .mv (.t 5), none, 394496, 5, []⟩,
    ⟨(some 23), .iaddr 1 (.t 21) (.t 22), none, 394752, 6, []⟩,
    ⟨(some 24), .load 1 false (.t 23), none, 395008, 7, []⟩,
    ⟨(some 25), .bin .neq (.t 20) (.t 24), none, 395264, 8, []⟩])
  (.cond (.t 25)
   (.seq (.reg [⟨(some 4), .mv (.k (.bool false)), none, 458752, 0, []⟩])
   (.ret))
   (.skip))))
  (.reg [⟨(some 15), .mv (.t 5), none, 327680, 0, []⟩,
    ⟨(some 16), .bin .add (.t 15) (.k (.int .i64 1)), none, 327936, 1, []⟩,
    ⟨(some 5), .mv (.t 16), none, 328192, 2, []⟩]))))))
 (.seq (.reg [⟨(some 4), .mv (.k (.bool true)), none, 524288, 0, []⟩])
 (.ret))))⟩
/-- loop.example/g00849/spec.A8Word -/
def F65 : F := ⟨1, 8, [.t 2],
 .seq (.reg [⟨(some 2), .mv (.k (.str ByteArray.empty)), none, 0, 0, []⟩])
 (.seq (.reg [⟨(some 4), .mv (.t 0), none, 65536, 0, []⟩,
   ⟨(some 5), .call 82 [(.t 4)] false, none, 65792, 1, []⟩,
   ⟨(some 3), .mv (.t 5), none, 66048, 2, []⟩])
 (.seq (.reg [⟨(some 6), .mv (.t 3), none, 131072, 0, []⟩,
   ⟨(some 7), .call 122 [(.t 6), (.k (.int .i64 40))] true, none, 131328, 1, []⟩,
   ⟨(some 2), .mv (.t 7), none, 131584, 2, []⟩])
 (.ret)))⟩
/-- loop.example/g00849/laws.a8Mix -/
def F66 : F := ⟨2, 10, [.t 4],
 .seq (.reg [⟨(some 4), .nil0 true 1, none, 0, 0, []⟩])
 (.seq (.reg [⟨(some 5), .mv (.t 0), none, 65536, 0, []⟩,
   ⟨(some 6), .conv .u8 (.t 5), none, 65792, 1, []⟩,
   ⟨(some 7), .bslice true 1 [(.int .u8 0)] 1 [(0, (.t 6))], none, 66048, 2, []⟩,
   ⟨(some 8), .mv (.t 1), none, 66304, 3, []⟩,
   ⟨(some 9), .app true 1 1 (.t 7) (.t 8), none, 66560, 4, []⟩,
   ⟨(some 4), .mv (.t 9), none, 66816, 5, []⟩])
 (.ret))⟩
/-- loop.example/g00849/laws.szShard -/
def F69 : F := ⟨2, 13, [.t 4],
 .seq (.reg [⟨(some 2), .box (.t 0), none, 0, 0, []⟩,
   ⟨(some 4), .mv (.k (.int .i64 0)), none, 256, 1, []⟩])
 (.seq (.reg [⟨(some 5), .mv (.t 1), none, 65536, 0, []⟩,
   ⟨(some 6), .faddr 1 (.t 2), none, 65792, 1, []⟩,
   ⟨(some 7), .load 1 false (.t 6), none, 66048, 2, []⟩,
   ⟨(some 8), .len true (.t 7), none, 66304, 3, []⟩,
   ⟨(some 9), .bin .sub (.t 5) (.t 8), none, 66560, 4, []⟩,
   ⟨(some 1), .mv (.t 9), none, 66816, 5, []⟩])
 (.seq (.seq (.reg [⟨(some 10), .mv (.t 1), none, 131072, 0, []⟩,
   ⟨(some 11), .bin .lss (.t 10) (.k (.int .i64 0)), none, 131328, 1, []⟩])
 (.cond (.t 11)
  (.seq (.reg [⟨(some 4), .mv (.k (.int .i64 (-1))), none, 196608, 0, []⟩])
  (.ret))
  (.skip)))
 (.seq (.reg [⟨(some 12), .mv (.t 1), none, 262144, 0, []⟩,
   ⟨(some 4), .mv (.t 12), none, 262400, 1, []⟩])
 (.ret))))⟩
/-- loop.example/g00849/spec.l04Have -/
def F70 : F := ⟨3, 65, [.t 6],
 .seq (.reg [⟨(some 3), .box (.t 0), none, 0, 0, []⟩,
   ⟨(some 6), .mv (.k (.bool false)), none, 256, 1, []⟩])
 (.seq (.seq (.reg [⟨(some 8), .load 2 true (.t 3), none, 65536, 0, []⟩,
   ⟨(some 9), .call 88 [(.t 8)] true, none, 65792, 1, []⟩,
   ⟨(some 10), .not (.t 9), none, 66048, 2, []⟩,
   ⟨(some 11), .mv (.t 10), none, 66304, 3, []⟩,
   ⟨(some 12), .mv (.t 1), (some (some 11, false)), 66560, 4, []⟩,
   ⟨(some 13), .call 77 [(.t 12), (.k (.int .i64 0)), (.k (.int .i64 64))] true, (some (some 11, false)), 66816, 5, []⟩,
   ⟨(some 14), .not (.t 13), (some (some 11, false)), 67072, 6, []⟩,
   ⟨(some 15), .pick (.t 11) (.k (.bool true)) (.t 14), none, 67328, 7, []⟩])
 (.cond (.t 15)
  (.seq (.reg [⟨(some 6), .mv (.k (.bool false)), none, 131072, 0, []⟩])
  (.ret))
  (.skip)))
 (.seq (.seq (.reg [⟨(some 7), .mv (.k (.int .i64 0)), none, 196608, 0, []⟩])
 (.block 0 (.loop [1, 2, 3, 7] [0, 1, 2, 3, 4, 5]
  (.seq (.seq (.reg [⟨(some 16), .mv (.t 7), none, 262144, 0, []⟩,
    ⟨(some 17), .mv (.t 2), none, 262400, 1, []⟩,
    ⟨(some 18), .len false (.t 17), none, 262656, 2, []⟩,
    ⟨(some 19), .bin .lss (.t 16) (.t 18), none, 262912, 3, []⟩])
  (.cond (.t 19)
   (.skip)
   (.exit 0)))
  (.seq (.block 1 (.seq (.reg [⟨(some 22), .mv (.t 2), none, 393216, 0, []⟩,
    ⟨(some 23), .mv (.t 7), none, 393472, 1, []⟩,
    ⟨(some 24), .iaddr 2 (.t 22) (.t 23), none, 393728, 2, []⟩,
    ⟨(some 25), .faddr 0 (.t 24), none, 393984, 3, []⟩,
    ⟨(some 26), .load 1 false (.t 25), none, 394240, 4, []⟩,
    ⟨(some 27), .faddr 0 (.t 3), none, 394496, 5, []⟩,
    ⟨(some 28), .load 1 false (.t 27), none, 394752, 6, []⟩,
    ⟨(some 29), .faddr 1 (.t 3), none, 395008, 7, []⟩,
    ⟨(some 30), .load 1 false (.t 29), none, 395264, 8, []⟩,
    ⟨(some 31), .bin .add (.t 28) (.t 30), none, 395520, 9, []⟩,
    ⟨(some 32), .bin .sub (.t 31) (.k (.int .i64 1)), none, 395776, 10, []⟩,
    ⟨(some 33), .call 77 [(.t 26), (.k (.int .i64 0)), (.t 32)] true, none, 396032, 11, []⟩,
    ⟨(some 34), .not (.t 33), none, 396288, 12, []⟩,
    ⟨(some 35), .mv (.t 34), none, 396544, 13, []⟩,
    ⟨(some 36), .mv (.t 7), (some (some 35, false)), 396800, 14, []⟩,
    ⟨(some 37), .bin .gtr (.t 36) (.k (.int .i64 0)), (some (some 35, false)), 397056, 15, []⟩,
    ⟨(some 38), .mv (.t 37), (some (some 35, false)), 397312, 16, []⟩,
    ⟨(some 39), .mv (.t 2), (some (some 38, true)), 397568, 17, []⟩,
    ⟨(some 40), .mv (.t 7), (some (some 38, true)), 397824, 18, []⟩,
    ⟨(some 41), .iaddr 2 (.t 39) (.t 40), (some (some 38, true)), 398080, 19, []⟩,
    ⟨(some 42), .faddr 0 (.t 41), (some (some 38, true)), 398336, 20, []⟩,
    ⟨(some 43), .load 1 false (.t 42), (some (some 38, true)), 398592, 21, []⟩,
    ⟨(some 44), .mv (.t 2), (some (some 38, true)), 398848, 22, []⟩,
    ⟨(some 45), .mv (.t 7), (some (some 38, true)), 399104, 23, []⟩,
    ⟨(some 46), .bin .sub (.t 45) (.k (.int .i64 1)), (some (some 38, true)), 399360, 24, []⟩,
    ⟨(some 47), .iaddr 2 (.t 44) (.t 46), (some (some 38, true)), 399616, 25, []⟩,
    ⟨(some 48), .faddr 0 (.t 47), (some (some 38, true)), 399872, 26, []⟩,
    ⟨(some 49), .load 1 false (.t 48), (some (some 38, true)), 400128, 27, []⟩,
    ⟨(some 50), .bin .leq (.t 43) (.t 49), (some (some 38, true)), 400384, 28, []⟩,
    ⟨(some 51), .pick (.t 38) (.t 50) (.k (.bool false)), (some (some 35, false)), 400640, 29, []⟩,
    ⟨(some 52), .pick (.t 35) (.k (.bool true)) (.t 51), none, 400896, 30, []⟩,
    ⟨(some 53), .mv (.t 52), none, 401152, 31, []⟩,
    ⟨(some 54), .mv (.t 2), (some (some 53, false)), 401408, 32, []⟩,
    ⟨(some 55), .mv (.t 7), (some (some 53, false)), 401664, 33, []⟩,
    ⟨(some 56), .iaddr 2 (.t 54) (.t 55), (some (some 53, false)), 401920, 34, []⟩,
    ⟨(some 57), .faddr 1 (.t 56), (some (some 53, false)), 402176, 35, []⟩,
    ⟨(some 58), .load 1 false (.t 57), (some (some 53, false)), 402432, 36, []⟩,
    ⟨(some 59), .len true (.t 58), (some (some 53, false)), 402688, 37, []⟩,
    ⟨(some 60), .load 2 true (.t 3), (some (some 53, false)), 402944, 38, []⟩,
    ⟨(some 61), .mv (.t 1), (some (some 53, false)), 403200, 39, []⟩,
    ⟨(some 62), .call 123 [(.t 60), (.t 61)] true, (some (some 53, false)), 403456, 40, []⟩,
    ⟨(some 63), .bin .neq (.t 59) (.t 62), (some (some 53, false)), 403712, 41, []⟩,
    ⟨(some 64), .pick (.t 53) (.k (.bool true)) (.t 63), none, 403968, 42, []⟩])
  (.cond (.t 64)
   (.seq (.reg [⟨(some 6), .mv (.k (.bool false)), none, 458752, 0, []⟩])
   (.ret))
   (.skip))))
  (.reg [⟨(some 20), .mv (.t 7), none, 327680, 0, []⟩,
    ⟨(some 21), .bin .add (.t 20) (.k (.int .i64 1)), none, 327936, 1, []⟩,
    ⟨(some 7), .mv (.t 21), none, 328192, 2, []⟩]))))))
 (.seq (.reg [⟨(some 6), .mv (.k (.bool true)), none, 524288, 0, []⟩])
 (.ret))))⟩
/-- loop.example/g00849/spec.l04Body -/
def F71 : F := ⟨3, 28, [.t 6],
 .seq (.reg [⟨(some 3), .box (.t 0), none, 0, 0, []⟩,
   ⟨(some 6), .mv (.k (.str ByteArray.empty)), none, 256, 1, []⟩])
 (.seq (.reg [⟨(some 10), .load 2 true (.t 3), none, 65536, 0, []⟩,
   ⟨(some 11), .mv (.t 2), none, 65792, 1, []⟩,
   ⟨(some 12), .call 124 [(.t 10), (.t 11)] false, none, 66048, 2, []⟩,
   ⟨(some 7), .mv (.t 12), none, 66304, 3, []⟩])
 (.seq (.reg [⟨(some 8), .mv (.k (.str ByteArray.empty)), none, 131072, 0, []⟩])
 (.seq (.seq (.reg [⟨(some 9), .mv (.k (.int .i64 0)), none, 196608, 0, []⟩])
 (.block 0 (.loop [1, 7, 8, 9] [0, 1, 2, 3, 4, 5, 66048, 66049, 66050, 66051]
  (.seq (.seq (.reg [⟨(some 13), .mv (.t 9), none, 262144, 0, []⟩,
    ⟨(some 14), .mv (.t 7), none, 262400, 1, []⟩,
    ⟨(some 15), .len false (.t 14), none, 262656, 2, []⟩,
    ⟨(some 16), .bin .lss (.t 13) (.t 15), none, 262912, 3, []⟩])
  (.cond (.t 16)
   (.skip)
   (.exit 0)))
  (.seq (.block 1 (.reg [⟨(some 19), .mv (.t 8), none, 393216, 0, []⟩,
    ⟨(some 20), .mv (.t 7), none, 393472, 1, []⟩,
    ⟨(some 21), .mv (.t 9), none, 393728, 2, []⟩,
    ⟨(some 22), .iaddr 1 (.t 20) (.t 21), none, 393984, 3, []⟩,
    ⟨(some 23), .load 1 false (.t 22), none, 394240, 4, []⟩,
    ⟨(some 24), .bin .add (.t 19) (.t 23), none, 394496, 5, []⟩,
    ⟨(some 8), .mv (.t 24), none, 394752, 6, []⟩]))
  (.reg [⟨(some 17), .mv (.t 9), none, 327680, 0, []⟩,
    ⟨(some 18), .bin .add (.t 17) (.k (.int .i64 1)), none, 327936, 1, []⟩,
    ⟨(some 9), .mv (.t 18), none, 328192, 2, []⟩]))))))
 (.seq (.reg [⟨(some 25), .mv (.t 8), none, 458752, 0, []⟩,
   ⟨(some 26), .mv (.t 1), none, 459008, 1, []⟩,
   ⟨(some 27), .scut (.t 25) none (some (.t 26)), none, 459264, 2, []⟩,
   ⟨(some 6), .mv (.t 27), none, 459520, 3, []⟩])
 (.ret)))))⟩
/-- loop.example/g00849/laws.toShard -/
def F72 : F := ⟨1, 11, [.cell 2 2 true],
 .seq (.reg [⟨(some 1), .box (.t 0), none, 0, 0, []⟩,
   ⟨(some 2), .alloc [(.int .i64 0), (.str ByteArray.empty)], none, 256, 1, []⟩])
 (.seq (.reg [⟨(some 3), .alloc [(.int .i64 0), (.str ByteArray.empty)], none, 65536, 0, []⟩])
 (.seq (.reg [⟨(some 4), .faddr 0 (.t 1), none, 131072, 0, []⟩,
   ⟨(some 5), .load 1 false (.t 4), none, 131328, 1, []⟩,
   ⟨(some 6), .faddr 0 (.t 3), none, 131584, 2, []⟩,
   ⟨none, .store 1 (.t 6) (.t 5), none, 131840, 3, []⟩])
 (.seq (.reg [⟨(some 7), .faddr 1 (.t 1), none, 196608, 0, []⟩,
   ⟨(some 8), .load 1 false (.t 7), none, 196864, 1, []⟩,
   ⟨(some 9), .faddr 1 (.t 3), none, 197120, 2, []⟩,
   ⟨none, .store 1 (.t 9) (.t 8), none, 197376, 3, []⟩])
 (.seq (.reg [⟨(some 10), .load 2 true (.t 3), none, 262144, 0, []⟩,
   ⟨none, .store 2 (.t 2) (.t 10), none, 262400, 1, []⟩])
 (.ret)))))⟩
/-- loop.example/g00849/impl.haveCode -/
def F73 : F := ⟨3, 19, [.t 6],
 .seq (.reg [⟨(some 3), .box (.t 0), none, 0, 0, []⟩,
   ⟨(some 6), .mv (.k (.int .i64 0)), none, 256, 1, []⟩])
 (.seq (.block 0 (.seq (.reg [⟨(some 8), .load 2 true (.t 3), none, 65536, 0, []⟩,
   ⟨(some 9), .mv (.t 1), none, 65792, 1, []⟩,
   ⟨(some 10), .mv (.t 2), none, 66048, 2, []⟩,
   ⟨(some 11), .call 36 [(.t 8), (.t 9), (.t 10)] true, none, 66304, 3, []⟩,
   ⟨(some 12), .not (.t 11), none, 66560, 4, []⟩,
   ⟨(some 7), .mv (.t 12), none, 66816, 5, []⟩])
 (.cond (.t 7)
  (.seq (.reg [⟨(some 6), .mv (.k (.int .i64 1)), none, 131072, 0, []⟩])
  (.ret))
  (.seq (.reg [⟨(some 14), .mv (.t 2), none, 196608, 0, []⟩,
    ⟨(some 15), .len false (.t 14), none, 196864, 1, []⟩,
    ⟨(some 16), .faddr 0 (.t 3), none, 197120, 2, []⟩,
    ⟨(some 17), .load 1 false (.t 16), none, 197376, 3, []⟩,
    ⟨(some 18), .bin .lss (.t 15) (.t 17), none, 197632, 4, []⟩,
    ⟨(some 13), .mv (.t 18), none, 197888, 5, []⟩])
  (.cond (.t 13)
   (.seq (.reg [⟨(some 6), .mv (.k (.int .i64 8)), none, 262144, 0, []⟩])
   (.ret))
   (.skip))))))
 (.seq (.reg [⟨(some 6), .mv (.k (.int .i64 0)), none, 327680, 0, []⟩])
 (.ret)))⟩
/-- (loop.example/g00849/impl.Code).recovered -/
def F75 : F := ⟨2, 45, [.t 4],
 .seq (.reg [⟨(some 2), .box (.t 0), none, 0, 0, []⟩,
   ⟨(some 4), .nil0 true 1, none, 256, 1, []⟩])
 (.seq (.reg [⟨(some 5), .nil0 true 1, none, 65536, 0, []⟩])
 (.seq (.reg [⟨(some 6), .nil0 true 1, none, 131072, 0, []⟩])
 (.seq (.seq (.reg [⟨(some 11), .mv (.t 1), none, 196608, 0, []⟩,
   ⟨(some 12), .faddr 0 (.t 2), none, 196864, 1, []⟩,
   ⟨(some 13), .load 1 false (.t 12), none, 197120, 2, []⟩,
   ⟨(some 14), .cut 2 (.t 11) none (some (.t 13)), none, 197376, 3, []⟩,
   ⟨(some 15), .len false (.t 14), none, 197632, 4, []⟩,
   ⟨(some 16), .mv (.k (.int .i64 0)), none, 197888, 5, []⟩])
 (.block 0 (.loop [2, 5, 6, 14, 15, 16] [0, 1, 2, 3, 4, 5, 256, 65536, 131072, 590848, 590849, 590850, 590851, 591360, 591361, 591362, 591363, 591616, 591617, 591618, 591619, 592640, 592643, 592897, 592898, 592899, 655872, 655873, 655874, 655875]
  (.seq (.reg [⟨(some 17), .bin .lss (.t 16) (.t 15), none, 262144, 0, []⟩])
  (.seq (.cond (.t 17)
   (.skip)
   (.exit 0))
  (.seq (.block 1 (.seq (.reg [⟨(some 18), .iaddr 2 (.t 14) (.t 16), none, 327680, 0, []⟩,
    ⟨(some 19), .load 2 true (.t 18), none, 327936, 1, []⟩,
    ⟨(some 8), .alloc [(.int .i64 0), (.str ByteArray.empty)], none, 328192, 2, []⟩,
    ⟨none, .store 2 (.t 8) (.t 19), none, 328448, 3, []⟩])
  (.seq (.reg [⟨(some 20), .mv (.t 5), none, 393216, 0, []⟩,
    ⟨(some 21), .faddr 0 (.t 8), none, 393472, 1, []⟩,
    ⟨(some 22), .load 1 false (.t 21), none, 393728, 2, []⟩,
    ⟨(some 23), .bslice true 1 [(.int .i64 0)] 1 [(0, (.t 22))], none, 393984, 3, []⟩,
    ⟨(some 24), .app true 1 8 (.t 20) (.t 23), none, 394240, 4, []⟩,
    ⟨(some 5), .mv (.t 24), none, 394496, 5, []⟩])
  (.reg [⟨(some 25), .mv (.t 6), none, 458752, 0, []⟩,
    ⟨(some 26), .faddr 1 (.t 8), none, 459008, 1, []⟩,
    ⟨(some 27), .load 1 false (.t 26), none, 459264, 2, []⟩,
    ⟨(some 28), .bslice true 1 [(.str ByteArray.empty)] 1 [(0, (.t 27))], none, 459520, 3, []⟩,
    ⟨(some 29), .app true 1 16 (.t 25) (.t 28), none, 459776, 4, []⟩,
    ⟨(some 6), .mv (.t 29), none, 460032, 5, []⟩]))))
  (.reg [⟨(some 30), .bin .add (.t 16) (.k (.int .i64 1)), none, 524288, 0, []⟩,
    ⟨(some 16), .mv (.t 30), none, 524544, 1, []⟩])))))))
 (.seq (.reg [⟨(some 32), .faddr 0 (.t 2), none, 589824, 0, []⟩,
   ⟨(some 33), .load 1 false (.t 32), none, 590080, 1, []⟩,
   ⟨(some 34), .faddr 1 (.t 2), none, 590336, 2, []⟩,
   ⟨(some 35), .load 1 false (.t 34), none, 590592, 3, []⟩,
   ⟨(some 36), .call 129 [(.t 33), (.t 35)] false, none, 590848, 4, []⟩,
   ⟨(some 37), .mv (.t 5), none, 591104, 5, []⟩,
   ⟨(some 38), .call 130 [(.t 36), (.t 37)] false, none, 591360, 6, []⟩,
   ⟨(some 39), .call 128 [(.t 38)] false, none, 591616, 7, []⟩,
   ⟨(some 31), .mv (.t 39), none, 591872, 8, []⟩,
   ⟨(some 40), .ext (.t 31) 0, none, 592128, 9, []⟩,
   ⟨(some 41), .ext (.t 31) 1, none, 592384, 10, []⟩,
   ⟨(some 9), .alloc [(.int .i64 0), (.int .i64 0), (.nil true 1)], none, 592640, 11, []⟩,
   ⟨none, .store 3 (.t 9) (.t 40), none, 592896, 12, []⟩,
   ⟨(some 10), .mv (.t 41), none, 593152, 13, []⟩])
 (.seq (.reg [⟨(some 42), .load 3 true (.t 9), none, 655360, 0, []⟩,
   ⟨(some 43), .mv (.t 6), none, 655616, 1, []⟩,
   ⟨(some 44), .call 131 [(.t 42), (.t 43)] false, none, 655872, 2, []⟩,
   ⟨(some 4), .mv (.t 44), none, 656128, 3, []⟩])
 (.ret))))))⟩
/-- loop.example/g00849/laws.eqShard -/
def F76 : F := ⟨2, 15, [.t 4],
 .seq (.reg [⟨(some 2), .box (.t 0), none, 0, 0, []⟩,
   ⟨(some 3), .box (.t 1), none, 256, 1, []⟩,
   ⟨(some 4), .mv (.k (.bool false)), none, 512, 2, []⟩])
 (.seq (.seq (.reg [⟨(some 5), .faddr 0 (.t 2), none, 65536, 0, []⟩,
   ⟨(some 6), .load 1 false (.t 5), none, 65792, 1, []⟩,
   ⟨(some 7), .faddr 0 (.t 3), none, 66048, 2, []⟩,
   ⟨(some 8), .load 1 false (.t 7), none, 66304, 3, []⟩,
   ⟨(some 9), .bin .neq (.t 6) (.t 8), none, 66560, 4, []⟩])
 (.cond (.t 9)
  (.seq (.reg [⟨(some 4), .mv (.k (.bool false)), none, 131072, 0, []⟩])
  (.ret))
  (.skip)))
 (.seq (.seq (.reg [⟨(some 10), .faddr 1 (.t 2), none, 196608, 0, []⟩,
   ⟨(some 11), .load 1 false (.t 10), none, 196864, 1, []⟩,
   ⟨(some 12), .faddr 1 (.t 3), none, 197120, 2, []⟩,
   ⟨(some 13), .load 1 false (.t 12), none, 197376, 3, []⟩,
   ⟨(some 14), .bin .neq (.t 11) (.t 13), none, 197632, 4, []⟩])
 (.cond (.t 14)
  (.seq (.reg [⟨(some 4), .mv (.k (.bool false)), none, 262144, 0, []⟩])
  (.ret))
  (.skip)))
 (.seq (.reg [⟨(some 4), .mv (.k (.bool true)), none, 327680, 0, []⟩])
 (.ret))))⟩
/-- loop.example/g00849/spec.l00In -/
def F77 : F := ⟨3, 15, [.t 6],
 .seq (.reg [⟨(some 6), .mv (.k (.bool false)), none, 0, 0, []⟩])
 (.seq (.reg [⟨(some 7), .mv (.t 0), none, 65536, 0, []⟩,
   ⟨(some 8), .mv (.t 1), none, 65792, 1, []⟩,
   ⟨(some 9), .bin .geq (.t 7) (.t 8), none, 66048, 2, []⟩,
   ⟨(some 10), .mv (.t 9), none, 66304, 3, []⟩,
   ⟨(some 11), .mv (.t 0), (some (some 10, true)), 66560, 4, []⟩,
   ⟨(some 12), .mv (.t 2), (some (some 10, true)), 66816, 5, []⟩,
   ⟨(some 13), .bin .leq (.t 11) (.t 12), (some (some 10, true)), 67072, 6, []⟩,
   ⟨(some 14), .pick (.t 10) (.t 13) (.k (.bool false)), none, 67328, 7, []⟩,
   ⟨(some 6), .mv (.t 14), none, 67584, 8, []⟩])
 (.ret))⟩
/-- loop.example/g00849/spec.l04Anew -/
def F78 : F := ⟨2, 14, [.t 4],
 .seq (.reg [⟨(some 2), .box (.t 0), none, 0, 0, []⟩,
   ⟨(some 4), .nil0 true 1, none, 256, 1, []⟩])
 (.seq (.reg [⟨(some 5), .faddr 0 (.t 2), none, 65536, 0, []⟩,
   ⟨(some 6), .load 1 false (.t 5), none, 65792, 1, []⟩,
   ⟨(some 7), .faddr 1 (.t 2), none, 66048, 2, []⟩,
   ⟨(some 8), .load 1 false (.t 7), none, 66304, 3, []⟩,
   ⟨(some 9), .call 133 [(.t 6), (.t 8)] false, none, 66560, 4, [(.t 2)]⟩,
   ⟨(some 10), .load 2 true (.t 2), none, 66816, 5, []⟩,
   ⟨(some 11), .mv (.t 1), none, 67072, 6, []⟩,
   ⟨(some 12), .call 124 [(.t 10), (.t 11)] false, none, 67328, 7, []⟩,
   ⟨(some 13), .call 132 [(.t 9), (.t 12)] false, none, 67584, 8, []⟩,
   ⟨(some 4), .mv (.t 13), none, 67840, 9, []⟩])
 (.ret))⟩
/-- (loop.example/g00849/impl.Code).isPos -/
def F79 : F := ⟨2, 10, [.t 4],
 .seq (.reg [⟨(some 2), .box (.t 0), none, 0, 0, []⟩,
   ⟨(some 4), .mv (.k (.bool false)), none, 256, 1, []⟩])
 (.seq (.reg [⟨(some 5), .mv (.t 1), none, 65536, 0, []⟩,
   ⟨(some 6), .load 2 true (.t 2), none, 65792, 1, []⟩,
   ⟨(some 7), .call 96 [(.t 6)] true, none, 66048, 2, []⟩,
   ⟨(some 8), .bin .sub (.t 7) (.k (.int .i64 1)), none, 66304, 3, []⟩,
   ⟨(some 9), .call 86 [(.t 5), (.k (.int .i64 0)), (.t 8)] true, none, 66560, 4, []⟩,
   ⟨(some 4), .mv (.t 9), none, 66816, 5, []⟩])
 (.ret))⟩
/-- (loop.example/g00849/impl.Code).encoded -/
def F80 : F := ⟨2, 12, [.t 4],
 .seq (.reg [⟨(some 2), .box (.t 0), none, 0, 0, []⟩,
   ⟨(some 4), .nil0 true 1, none, 256, 1, []⟩])
 (.seq (.reg [⟨(some 5), .faddr 0 (.t 2), none, 65536, 0, []⟩,
   ⟨(some 6), .load 1 false (.t 5), none, 65792, 1, []⟩,
   ⟨(some 7), .faddr 1 (.t 2), none, 66048, 2, []⟩,
   ⟨(some 8), .load 1 false (.t 7), none, 66304, 3, []⟩,
   ⟨(some 9), .call 129 [(.t 6), (.t 8)] false, none, 66560, 4, []⟩,
   ⟨(some 10), .mv (.t 1), none, 66816, 5, []⟩,
   ⟨(some 11), .call 131 [(.t 9), (.t 10)] false, none, 67072, 6, []⟩,
   ⟨(some 4), .mv (.t 11), none, 67328, 7, []⟩])
 (.ret))⟩
/-- loop.example/g00849/laws.markText -/
def F81 : F := ⟨1, 20, [.t 2],
 .seq (.reg [⟨(some 2), .mv (.k (.str ByteArray.empty)), none, 0, 0, []⟩])
 (.seq (.seq (.reg [⟨(some 4), .mv (.t 0), none, 65536, 0, []⟩,
   ⟨(some 5), .bin .leq (.t 4) (.k (.int .i64 0)), none, 65792, 1, []⟩])
 (.cond (.t 5)
  (.seq (.reg [⟨(some 2), .mv (.k (.str ⟨#[109, 48]⟩)), none, 131072, 0, []⟩])
  (.ret))
  (.skip)))
 (.seq (.reg [⟨(some 3), .mv (.k (.str ByteArray.empty)), none, 196608, 0, []⟩])
 (.seq (.block 0 (.loop [0, 3] []
  (.seq (.seq (.reg [⟨(some 6), .mv (.t 0), none, 262144, 0, []⟩,
    ⟨(some 7), .bin .gtr (.t 6) (.k (.int .i64 0)), none, 262400, 1, []⟩])
  (.cond (.t 7)
   (.skip)
   (.exit 0)))
  (.block 1 (.seq (.reg [⟨(some 8), .mv (.t 0), none, 327680, 0, []⟩,
    ⟨(some 9), .bin .rem (.t 8) (.k (.int .i64 10)), none, 327936, 1, []⟩,
    ⟨(some 10), .bin .add (.k (.int .i64 48)) (.t 9), none, 328192, 2, []⟩,
    ⟨(some 11), .conv .u8 (.t 10), none, 328448, 3, []⟩,
    ⟨(some 12), .bslice true 1 [(.int .u8 0)] 1 [(0, (.t 11))], none, 328704, 4, []⟩,
    ⟨(some 13), .b2s (.t 12), none, 328960, 5, []⟩,
    ⟨(some 14), .mv (.t 3), none, 329216, 6, []⟩,
    ⟨(some 15), .bin .add (.t 13) (.t 14), none, 329472, 7, []⟩,
    ⟨(some 3), .mv (.t 15), none, 329728, 8, []⟩])
  (.reg [⟨(some 16), .mv (.t 0), none, 393216, 0, []⟩,
    ⟨(some 17), .bin .quo (.t 16) (.k (.int .i64 10)), none, 393472, 1, []⟩,
    ⟨(some 0), .mv (.t 17), none, 393728, 2, []⟩]))))))
 (.seq (.reg [⟨(some 18), .mv (.t 3), none, 458752, 0, []⟩,
   ⟨(some 19), .bin .add (.k (.str ⟨#[109]⟩)) (.t 18), none, 459008, 1, []⟩,
   ⟨(some 2), .mv (.t 19), none, 459264, 2, []⟩])
 (.ret)))))⟩
/-- loop.example/g00849/spec.l00From -/
def F82 : F := ⟨1, 6, [.t 2],
 .seq (.reg [⟨(some 2), .mv (.k .undef), none, 0, 0, []⟩])
 (.seq (.reg [⟨(some 3), .mv (.t 0), none, 65536, 0, []⟩,
   ⟨(some 4), .build [(.nil true 1), (.int .i64 0), (.int .u64 0)] [(0, 1, (.t 3))], none, 65792, 1, []⟩,
   ⟨(some 5), .box (.t 4), none, 66048, 2, []⟩,
   ⟨(some 2), .mv (.t 5), none, 66304, 3, []⟩])
 (.ret))⟩
/-- loop.example/g00849/spec.l04Draw -/
def F83 : F := ⟨1, 9, [.cell 2 2 true],
 .seq (.reg [⟨(some 2), .alloc [(.int .i64 0), (.int .i64 0)], none, 0, 0, []⟩])
 (.seq (.reg [⟨(some 3), .mv (.t 0), none, 65536, 0, []⟩,
   ⟨(some 4), .call 134 [(.t 3), (.k (.int .i64 4))] true, none, 65792, 1, []⟩,
   ⟨(some 5), .bin .add (.k (.int .i64 1)) (.t 4), none, 66048, 2, []⟩,
   ⟨(some 6), .mv (.t 0), none, 66304, 3, []⟩,
   ⟨(some 7), .call 134 [(.t 6), (.k (.int .i64 4))] true, none, 66560, 4, []⟩,
   ⟨(some 8), .build [(.int .i64 0), (.int .i64 0)] [(0, 1, (.t 5)), (1, 1, (.t 7))], none, 66816, 5, []⟩,
   ⟨none, .store 2 (.t 2) (.t 8), none, 67072, 6, []⟩])
 (.ret))⟩
/-- loop.example/g00849/impl.CodeOk -/
def F84 : F := ⟨1, 11, [.t 2],
 .seq (.reg [⟨(some 1), .box (.t 0), none, 0, 0, []⟩,
   ⟨(some 2), .mv (.k (.bool false)), none, 256, 1, []⟩])
 (.seq (.reg [⟨(some 3), .faddr 0 (.t 1), none, 65536, 0, []⟩,
   ⟨(some 4), .load 1 false (.t 3), none, 65792, 1, []⟩,
   ⟨(some 5), .call 86 [(.t 4), (.k (.int .i64 1)), (.k (.int .i64 4))] true, none, 66048, 2, []⟩,
   ⟨(some 6), .mv (.t 5), none, 66304, 3, []⟩,
   ⟨(some 7), .faddr 1 (.t 1), (some (some 6, true)), 66560, 4, []⟩,
   ⟨(some 8), .load 1 false (.t 7), (some (some 6, true)), 66816, 5, []⟩,
   ⟨(some 9), .call 86 [(.t 8), (.k (.int .i64 0)), (.k (.int .i64 3))] true, (some (some 6, true)), 67072, 6, []⟩,
   ⟨(some 10), .pick (.t 6) (.t 9) (.k (.bool false)), none, 67328, 7, []⟩,
   ⟨(some 2), .mv (.t 10), none, 67584, 8, []⟩])
 (.ret))⟩
/-- (loop.example/g00849/impl.Code).shards -/
def F85 : F := ⟨2, 44, [.t 4],
 .seq (.reg [⟨(some 2), .box (.t 0), none, 0, 0, []⟩,
   ⟨(some 4), .nil0 true 1, none, 256, 1, []⟩])
 (.seq (.reg [⟨(some 9), .load 2 true (.t 2), none, 65536, 0, []⟩,
   ⟨(some 10), .mv (.t 1), none, 65792, 1, []⟩,
   ⟨(some 11), .len true (.t 10), none, 66048, 2, []⟩,
   ⟨(some 12), .call 87 [(.t 9), (.t 11)] true, none, 66304, 3, []⟩,
   ⟨(some 5), .mv (.t 12), none, 66560, 4, []⟩])
 (.seq (.reg [⟨(some 13), .mv (.t 1), none, 131072, 0, []⟩,
   ⟨(some 14), .mv (.t 5), none, 131328, 1, []⟩,
   ⟨(some 15), .faddr 0 (.t 2), none, 131584, 2, []⟩,
   ⟨(some 16), .load 1 false (.t 15), none, 131840, 3, []⟩,
   ⟨(some 17), .bin .mul (.t 14) (.t 16), none, 132096, 4, []⟩,
   ⟨(some 18), .mv (.t 1), none, 132352, 5, []⟩,
   ⟨(some 19), .len true (.t 18), none, 132608, 6, []⟩,
   ⟨(some 20), .bin .sub (.t 17) (.t 19), none, 132864, 7, []⟩,
   ⟨(some 21), .call 135 [(.k (.str ⟨#[0]⟩)), (.t 20)] true, none, 133120, 8, []⟩,
   ⟨(some 22), .bin .add (.t 13) (.t 21), none, 133376, 9, []⟩,
   ⟨(some 6), .mv (.t 22), none, 133632, 10, []⟩])
 (.seq (.reg [⟨(some 7), .nil0 true 1, none, 196608, 0, []⟩])
 (.seq (.seq (.reg [⟨(some 23), .faddr 0 (.t 2), none, 262144, 0, []⟩,
   ⟨(some 24), .load 1 false (.t 23), none, 262400, 1, []⟩,
   ⟨(some 25), .mv (.k (.int .i64 0)), none, 262656, 2, []⟩])
 (.block 0 (.loop [2, 5, 6, 7, 24, 25] [0, 1, 2, 3, 4, 5, 256, 196608, 590336, 590337, 590338, 590339]
  (.seq (.reg [⟨(some 26), .bin .lss (.t 25) (.t 24), none, 327680, 0, []⟩])
  (.seq (.cond (.t 26)
   (.skip)
   (.exit 0))
  (.seq (.block 1 (.seq (.reg [⟨(some 27), .mv (.t 25), none, 393216, 0, []⟩,
    ⟨(some 8), .mv (.t 27), none, 393472, 1, []⟩])
  (.reg [⟨(some 28), .mv (.t 7), none, 458752, 0, []⟩,
    ⟨(some 29), .mv (.t 6), none, 459008, 1, []⟩,
    ⟨(some 30), .mv (.t 8), none, 459264, 2, []⟩,
    ⟨(some 31), .mv (.t 5), none, 459520, 3, []⟩,
    ⟨(some 32), .bin .mul (.t 30) (.t 31), none, 459776, 4, []⟩,
    ⟨(some 33), .mv (.t 8), none, 460032, 5, []⟩,
    ⟨(some 34), .bin .add (.t 33) (.k (.int .i64 1)), none, 460288, 6, []⟩,
    ⟨(some 35), .mv (.t 5), none, 460544, 7, []⟩,
    ⟨(some 36), .bin .mul (.t 34) (.t 35), none, 460800, 8, []⟩,
    ⟨(some 37), .scut (.t 29) (some (.t 32)) (some (.t 36)), none, 461056, 9, []⟩,
    ⟨(some 38), .bslice true 1 [(.str ByteArray.empty)] 1 [(0, (.t 37))], none, 461312, 10, []⟩,
    ⟨(some 39), .app true 1 16 (.t 28) (.t 38), none, 461568, 11, []⟩,
    ⟨(some 7), .mv (.t 39), none, 461824, 12, []⟩])))
  (.reg [⟨(some 40), .bin .add (.t 25) (.k (.int .i64 1)), none, 524288, 0, []⟩,
    ⟨(some 25), .mv (.t 40), none, 524544, 1, []⟩])))))))
 (.seq (.reg [⟨(some 41), .load 2 true (.t 2), none, 589824, 0, []⟩,
   ⟨(some 42), .mv (.t 7), none, 590080, 1, []⟩,
   ⟨(some 43), .call 80 [(.t 41), (.t 42)] false, none, 590336, 2, []⟩,
   ⟨(some 4), .mv (.t 43), none, 590592, 3, []⟩])
 (.ret))))))⟩
/-- loop.example/g00849/impl.between -/
def F86 : F := ⟨3, 15, [.t 6],
 .seq (.reg [⟨(some 6), .mv (.k (.bool false)), none, 0, 0, []⟩])
 (.seq (.reg [⟨(some 7), .mv (.t 0), none, 65536, 0, []⟩,
   ⟨(some 8), .mv (.t 1), none, 65792, 1, []⟩,
   ⟨(some 9), .bin .geq (.t 7) (.t 8), none, 66048, 2, []⟩,
   ⟨(some 10), .mv (.t 9), none, 66304, 3, []⟩,
   ⟨(some 11), .mv (.t 0), (some (some 10, true)), 66560, 4, []⟩,
   ⟨(some 12), .mv (.t 2), (some (some 10, true)), 66816, 5, []⟩,
   ⟨(some 13), .bin .leq (.t 11) (.t 12), (some (some 10, true)), 67072, 6, []⟩,
   ⟨(some 14), .pick (.t 10) (.t 13) (.k (.bool false)), none, 67328, 7, []⟩,
   ⟨(some 6), .mv (.t 14), none, 67584, 8, []⟩])
 (.ret))⟩
/-- (loop.example/g00849/impl.Code).piece -/
def F87 : F := ⟨2, 13, [.t 4],
 .seq (.reg [⟨(some 2), .box (.t 0), none, 0, 0, []⟩,
   ⟨(some 4), .mv (.k (.int .i64 0)), none, 256, 1, []⟩])
 (.seq (.reg [⟨(some 5), .mv (.t 1), none, 65536, 0, []⟩,
   ⟨(some 6), .faddr 0 (.t 2), none, 65792, 1, []⟩,
   ⟨(some 7), .load 1 false (.t 6), none, 66048, 2, []⟩,
   ⟨(some 8), .bin .add (.t 5) (.t 7), none, 66304, 3, []⟩,
   ⟨(some 9), .bin .sub (.t 8) (.k (.int .i64 1)), none, 66560, 4, []⟩,
   ⟨(some 10), .faddr 0 (.t 2), none, 66816, 5, []⟩,
   ⟨(some 11), .load 1 false (.t 10), none, 67072, 6, []⟩,
   ⟨(some 12), .bin .quo (.t 9) (.t 11), none, 67328, 7, []⟩,
   ⟨(some 4), .mv (.t 12), none, 67584, 8, []⟩])
 (.ret))⟩
/-- loop.example/g00849/spec.l04Code -/
def F88 : F := ⟨1, 11, [.t 2],
 .seq (.reg [⟨(some 1), .box (.t 0), none, 0, 0, []⟩,
   ⟨(some 2), .mv (.k (.bool false)), none, 256, 1, []⟩])
 (.seq (.reg [⟨(some 3), .faddr 0 (.t 1), none, 65536, 0, []⟩,
   ⟨(some 4), .load 1 false (.t 3), none, 65792, 1, []⟩,
   ⟨(some 5), .call 77 [(.t 4), (.k (.int .i64 1)), (.k (.int .i64 4))] true, none, 66048, 2, []⟩,
   ⟨(some 6), .mv (.t 5), none, 66304, 3, []⟩,
   ⟨(some 7), .faddr 1 (.t 1), (some (some 6, true)), 66560, 4, []⟩,
   ⟨(some 8), .load 1 false (.t 7), (some (some 6, true)), 66816, 5, []⟩,
   ⟨(some 9), .call 77 [(.t 8), (.k (.int .i64 0)), (.k (.int .i64 3))] true, (some (some 6, true)), 67072, 6, []⟩,
   ⟨(some 10), .pick (.t 6) (.t 9) (.k (.bool false)), none, 67328, 7, []⟩,
   ⟨(some 2), .mv (.t 10), none, 67584, 8, []⟩])
 (.ret))⟩
/-- (loop.example/g00849/impl.Code).size -/
def F96 : F := ⟨1, 8, [.t 2],
 .seq (.reg [⟨(some 1), .box (.t 0), none, 0, 0, []⟩,
   ⟨(some 2), .mv (.k (.int .i64 0)), none, 256, 1, []⟩])
 (.seq (.reg [⟨(some 3), .faddr 0 (.t 1), none, 65536, 0, []⟩,
   ⟨(some 4), .load 1 false (.t 3), none, 65792, 1, []⟩,
   ⟨(some 5), .faddr 1 (.t 1), none, 66048, 2, []⟩,
   ⟨(some 6), .load 1 false (.t 5), none, 66304, 3, []⟩,
   ⟨(some 7), .bin .add (.t 4) (.t 6), none, 66560, 4, []⟩,
   ⟨(some 2), .mv (.t 7), none, 66816, 5, []⟩])
 (.ret))⟩
/-- (*loop.example/g00849/spec.l00Src).word -/
def F122 : F := ⟨2, 23, [.t 4],
 .seq (.reg [⟨(some 4), .mv (.k (.str ByteArray.empty)), none, 0, 0, []⟩])
 (.seq (.reg [⟨(some 7), .bslice true 1 [(.int .u8 0)] 0 [], none, 65536, 0, []⟩,
   ⟨(some 5), .mv (.t 7), none, 65792, 1, []⟩])
 (.seq (.seq (.reg [⟨(some 8), .mv (.t 0), none, 131072, 0, []⟩,
   ⟨(some 9), .mv (.t 1), none, 131328, 1, []⟩,
   ⟨(some 10), .call 134 [(.t 8), (.t 9)] true, none, 131584, 2, []⟩,
   ⟨(some 6), .mv (.t 10), none, 131840, 3, []⟩])
 (.block 0 (.loop [0, 5, 6] [65536]
  (.seq (.seq (.reg [⟨(some 11), .mv (.t 6), none, 196608, 0, []⟩,
    ⟨(some 12), .bin .gtr (.t 11) (.k (.int .i64 0)), none, 196864, 1, []⟩])
  (.cond (.t 12)
   (.skip)
   (.exit 0)))
  (.seq (.block 1 (.reg [⟨(some 15), .mv (.t 5), none, 327680, 0, []⟩,
    ⟨(some 16), .mv (.t 0), none, 327936, 1, []⟩,
    ⟨(some 17), .call 148 [(.t 16)] true, none, 328192, 2, []⟩,
    ⟨(some 18), .conv .u8 (.t 17), none, 328448, 3, []⟩,
    ⟨(some 19), .bslice true 1 [(.int .u8 0)] 1 [(0, (.t 18))], none, 328704, 4, []⟩,
    ⟨(some 20), .app true 1 1 (.t 15) (.t 19), none, 328960, 5, []⟩,
    ⟨(some 5), .mv (.t 20), none, 329216, 6, []⟩]))
  (.reg [⟨(some 13), .mv (.t 6), none, 262144, 0, []⟩,
    ⟨(some 14), .bin .sub (.t 13) (.k (.int .i64 1)), none, 262400, 1, []⟩,
    ⟨(some 6), .mv (.t 14), none, 262656, 2, []⟩]))))))
 (.seq (.reg [⟨(some 21), .mv (.t 5), none, 393216, 0, []⟩,
   ⟨(some 22), .b2s (.t 21), none, 393472, 1, []⟩,
   ⟨(some 4), .mv (.t 22), none, 393728, 2, []⟩])
 (.ret))))⟩
/-- loop.example/g00849/spec.l04Size -/
def F123 : F := ⟨2, 13, [.t 4],
 .seq (.reg [⟨(some 2), .box (.t 0), none, 0, 0, []⟩,
   ⟨(some 4), .mv (.k (.int .i64 0)), none, 256, 1, []⟩])
 (.seq (.reg [⟨(some 5), .mv (.t 1), none, 65536, 0, []⟩,
   ⟨(some 6), .faddr 0 (.t 2), none, 65792, 1, []⟩,
   ⟨(some 7), .load 1 false (.t 6), none, 66048, 2, []⟩,
   ⟨(some 8), .bin .add (.t 5) (.t 7), none, 66304, 3, []⟩,
   ⟨(some 9), .bin .sub (.t 8) (.k (.int .i64 1)), none, 66560, 4, []⟩,
   ⟨(some 10), .faddr 0 (.t 2), none, 66816, 5, []⟩,
   ⟨(some 11), .load 1 false (.t 10), none, 67072, 6, []⟩,
   ⟨(some 12), .bin .quo (.t 9) (.t 11), none, 67328, 7, []⟩,
   ⟨(some 4), .mv (.t 12), none, 67584, 8, []⟩])
 (.ret))⟩
/-- loop.example/g00849/spec.l04Back -/
def F124 : F := ⟨2, 48, [.t 4],
 .seq (.reg [⟨(some 2), .box (.t 0), none, 0, 0, []⟩,
   ⟨(some 4), .nil0 true 1, none, 256, 1, []⟩])
 (.seq (.reg [⟨(some 10), .bslice true 1 [(.int .i64 0)] 0 [], none, 65536, 0, []⟩,
   ⟨(some 5), .mv (.t 10), none, 65792, 1, []⟩])
 (.seq (.reg [⟨(some 11), .bslice true 1 [(.str ByteArray.empty)] 0 [], none, 131072, 0, []⟩,
   ⟨(some 6), .mv (.t 11), none, 131328, 1, []⟩])
 (.seq (.seq (.reg [⟨(some 7), .mv (.k (.int .i64 0)), none, 196608, 0, []⟩])
 (.block 0 (.loop [1, 2, 5, 6, 7] [0, 1, 2, 3, 4, 5, 256, 65536, 131072, 525312, 525313, 525314, 525315, 525824, 525825, 525826, 525827, 526080, 526081, 526082, 526083, 527104, 527107, 527361, 527362, 527363, 590336, 590337, 590338, 590339]
  (.seq (.seq (.reg [⟨(some 12), .mv (.t 7), none, 262144, 0, []⟩,
    ⟨(some 13), .faddr 0 (.t 2), none, 262400, 1, []⟩,
    ⟨(some 14), .load 1 false (.t 13), none, 262656, 2, []⟩,
    ⟨(some 15), .bin .lss (.t 12) (.t 14), none, 262912, 3, []⟩])
  (.cond (.t 15)
   (.skip)
   (.exit 0)))
  (.seq (.block 1 (.seq (.reg [⟨(some 18), .mv (.t 5), none, 393216, 0, []⟩,
    ⟨(some 19), .mv (.t 1), none, 393472, 1, []⟩,
    ⟨(some 20), .mv (.t 7), none, 393728, 2, []⟩,
    ⟨(some 21), .iaddr 2 (.t 19) (.t 20), none, 393984, 3, []⟩,
    ⟨(some 22), .faddr 0 (.t 21), none, 394240, 4, []⟩,
    ⟨(some 23), .load 1 false (.t 22), none, 394496, 5, []⟩,
    ⟨(some 24), .bslice true 1 [(.int .i64 0)] 1 [(0, (.t 23))], none, 394752, 6, []⟩,
    ⟨(some 25), .app true 1 8 (.t 18) (.t 24), none, 395008, 7, []⟩,
    ⟨(some 5), .mv (.t 25), none, 395264, 8, []⟩])
  (.reg [⟨(some 26), .mv (.t 6), none, 458752, 0, []⟩,
    ⟨(some 27), .mv (.t 1), none, 459008, 1, []⟩,
    ⟨(some 28), .mv (.t 7), none, 459264, 2, []⟩,
    ⟨(some 29), .iaddr 2 (.t 27) (.t 28), none, 459520, 3, []⟩,
    ⟨(some 30), .faddr 1 (.t 29), none, 459776, 4, []⟩,
    ⟨(some 31), .load 1 false (.t 30), none, 460032, 5, []⟩,
    ⟨(some 32), .bslice true 1 [(.str ByteArray.empty)] 1 [(0, (.t 31))], none, 460288, 6, []⟩,
    ⟨(some 33), .app true 1 16 (.t 26) (.t 32), none, 460544, 7, []⟩,
    ⟨(some 6), .mv (.t 33), none, 460800, 8, []⟩])))
  (.reg [⟨(some 16), .mv (.t 7), none, 327680, 0, []⟩,
    ⟨(some 17), .bin .add (.t 16) (.k (.int .i64 1)), none, 327936, 1, []⟩,
    ⟨(some 7), .mv (.t 17), none, 328192, 2, []⟩]))))))
 (.seq (.reg [⟨(some 35), .faddr 0 (.t 2), none, 524288, 0, []⟩,
   ⟨(some 36), .load 1 false (.t 35), none, 524544, 1, []⟩,
   ⟨(some 37), .faddr 1 (.t 2), none, 524800, 2, []⟩,
   ⟨(some 38), .load 1 false (.t 37), none, 525056, 3, []⟩,
   ⟨(some 39), .call 133 [(.t 36), (.t 38)] false, none, 525312, 4, []⟩,
   ⟨(some 40), .mv (.t 5), none, 525568, 5, []⟩,
   ⟨(some 41), .call 150 [(.t 39), (.t 40)] false, none, 525824, 6, []⟩,
   ⟨(some 42), .call 149 [(.t 41)] false, none, 526080, 7, []⟩,
   ⟨(some 34), .mv (.t 42), none, 526336, 8, []⟩,
   ⟨(some 43), .ext (.t 34) 0, none, 526592, 9, []⟩,
   ⟨(some 44), .ext (.t 34) 1, none, 526848, 10, []⟩,
   ⟨(some 8), .alloc [(.int .i64 0), (.int .i64 0), (.nil true 1)], none, 527104, 11, []⟩,
   ⟨none, .store 3 (.t 8) (.t 43), none, 527360, 12, []⟩,
   ⟨(some 9), .mv (.t 44), none, 527616, 13, []⟩])
 (.seq (.reg [⟨(some 45), .load 3 true (.t 8), none, 589824, 0, []⟩,
   ⟨(some 46), .mv (.t 6), none, 590080, 1, []⟩,
   ⟨(some 47), .call 132 [(.t 45), (.t 46)] false, none, 590336, 2, []⟩,
   ⟨(some 4), .mv (.t 47), none, 590592, 3, []⟩])
 (.ret))))))⟩
/-- loop.example/g00849/impl.inverted -/
def F128 : F := ⟨1, 126, [.cell 2 3 true, .t 3],
 .seq (.reg [⟨(some 1), .box (.t 0), none, 0, 0, []⟩,
   ⟨(some 2), .alloc [(.int .i64 0), (.int .i64 0), (.nil true 1)], none, 256, 1, []⟩,
   ⟨(some 3), .mv (.k (.bool false)), none, 512, 2, []⟩])
 (.seq (.reg [⟨(some 11), .faddr 0 (.t 1), none, 65536, 0, []⟩,
   ⟨(some 12), .load 1 false (.t 11), none, 65792, 1, []⟩,
   ⟨(some 13), .faddr 1 (.t 1), none, 66048, 2, []⟩,
   ⟨(some 14), .load 1 false (.t 13), none, 66304, 3, []⟩,
   ⟨(some 15), .faddr 2 (.t 1), none, 66560, 4, []⟩,
   ⟨(some 16), .load 1 false (.t 15), none, 66816, 5, []⟩,
   ⟨(some 17), .call 153 [(.t 16)] false, none, 67072, 6, []⟩,
   ⟨(some 18), .build [(.int .i64 0), (.int .i64 0), (.nil true 1)] [(0, 1, (.t 12)), (1, 1, (.t 14)), (2, 1, (.t 17))], none, 67328, 7, []⟩,
   ⟨(some 4), .alloc [(.int .i64 0), (.int .i64 0), (.nil true 1)], none, 67584, 8, []⟩,
   ⟨none, .store 3 (.t 4) (.t 18), none, 67840, 9, []⟩])
 (.seq (.reg [⟨(some 19), .faddr 0 (.t 1), none, 131072, 0, []⟩,
   ⟨(some 20), .load 1 false (.t 19), none, 131328, 1, []⟩,
   ⟨(some 21), .call 154 [(.t 20)] false, none, 131584, 2, []⟩,
   ⟨(some 5), .alloc [(.int .i64 0), (.int .i64 0), (.nil true 1)], none, 131840, 3, []⟩,
   ⟨none, .store 3 (.t 5) (.t 21), none, 132096, 4, []⟩])
 (.seq (.seq (.reg [⟨(some 22), .faddr 0 (.t 1), none, 196608, 0, []⟩,
   ⟨(some 23), .load 1 false (.t 22), none, 196864, 1, []⟩,
   ⟨(some 24), .mv (.k (.int .i64 0)), none, 197120, 2, []⟩])
 (.block 0 (.loop [1, 2, 4, 5, 23, 24] [0, 1, 2, 3, 4, 5, 256, 259, 67072, 67073, 67074, 67075, 67584, 67587, 67841, 67842, 67843, 131584, 131585, 131586, 131587, 131840, 131843, 132097, 132098, 132099, 1704193, 1704194, 1704195]
  (.seq (.reg [⟨(some 25), .bin .lss (.t 24) (.t 23), none, 262144, 0, []⟩])
  (.seq (.cond (.t 25)
   (.skip)
   (.exit 0))
  (.seq (.block 1 (.seq (.reg [⟨(some 26), .mv (.t 24), none, 327680, 0, []⟩,
    ⟨(some 6), .mv (.t 26), none, 327936, 1, []⟩])
  (.seq (.seq (.reg [⟨(some 27), .mv (.t 6), none, 393216, 0, []⟩,
    ⟨(some 7), .mv (.t 27), none, 393472, 1, []⟩])
  (.block 2 (.loop [1, 2, 4, 5, 6, 7, 23, 24] [0, 1, 2, 3, 4, 5, 256, 259, 67072, 67073, 67074, 67075, 67584, 67587, 67841, 67842, 67843, 131584, 131585, 131586, 131587, 131840, 131843, 132097, 132098, 132099, 918016, 918017, 918018, 918019, 983552, 983553, 983554, 983555, 984320, 984321, 984322, 984323, 984576, 984577, 984578, 984579, 1049088, 1049089, 1049090, 1049091, 1049856, 1049857, 1049858, 1049859, 1050112, 1050113, 1050114, 1050115, 1311232, 1311233, 1311234, 1311235, 1442304, 1442305, 1442306, 1442307, 1443072, 1443073, 1443074, 1443075, 1507840, 1507841, 1507842, 1507843, 1508608, 1508609, 1508610, 1508611, 1704193, 1704194, 1704195]
   (.seq (.seq (.reg [⟨(some 28), .load 3 true (.t 4), none, 458752, 0, []⟩,
     ⟨(some 29), .mv (.t 6), none, 459008, 1, []⟩,
     ⟨(some 30), .call 155 [(.t 28), (.t 29)] false, none, 459264, 2, []⟩,
     ⟨(some 31), .mv (.t 6), none, 459520, 3, []⟩,
     ⟨(some 32), .iaddr 1 (.t 30) (.t 31), none, 459776, 4, []⟩,
     ⟨(some 33), .load 1 false (.t 32), none, 460032, 5, []⟩,
     ⟨(some 34), .bin .eql (.t 33) (.k (.int .i64 0)), none, 460288, 6, []⟩])
   (.cond (.t 34)
    (.skip)
    (.exit 2)))
   (.seq (.block 3 (.seq (.seq (.reg [⟨(some 37), .mv (.t 7), none, 589824, 0, []⟩,
     ⟨(some 38), .faddr 0 (.t 1), none, 590080, 1, []⟩,
     ⟨(some 39), .load 1 false (.t 38), none, 590336, 2, []⟩,
     ⟨(some 40), .bin .eql (.t 37) (.t 39), none, 590592, 3, []⟩])
   (.cond (.t 40)
    (.seq (.reg [⟨(some 41), .build [(.int .i64 0), (.int .i64 0), (.nil true 1)] [], none, 655360, 0, []⟩,
      ⟨none, .store 3 (.t 2) (.t 41), none, 655616, 1, []⟩,
      ⟨(some 3), .mv (.k (.bool false)), none, 655872, 2, []⟩])
    (.ret))
    (.skip)))
   (.seq (.reg [⟨(some 42), .load 3 true (.t 4), none, 720896, 0, []⟩,
     ⟨(some 43), .mv (.t 7), none, 721152, 1, []⟩,
     ⟨(some 44), .call 155 [(.t 42), (.t 43)] false, none, 721408, 2, []⟩,
     ⟨(some 45), .mv (.t 6), none, 721664, 3, []⟩,
     ⟨(some 46), .iaddr 1 (.t 44) (.t 45), none, 721920, 4, []⟩,
     ⟨(some 47), .load 1 false (.t 46), none, 722176, 5, []⟩,
     ⟨(some 48), .bin .neq (.t 47) (.k (.int .i64 0)), none, 722432, 6, []⟩])
   (.cond (.t 48)
    (.seq (.reg [⟨(some 49), .load 3 true (.t 4), none, 786432, 0, []⟩,
      ⟨(some 50), .mv (.t 6), none, 786688, 1, []⟩,
      ⟨(some 51), .call 155 [(.t 49), (.t 50)] false, none, 786944, 2, []⟩,
      ⟨(some 52), .load 3 true (.t 4), none, 787200, 3, []⟩,
      ⟨(some 53), .mv (.t 7), none, 787456, 4, []⟩,
      ⟨(some 54), .call 155 [(.t 52), (.t 53)] false, none, 787712, 5, []⟩,
      ⟨(some 55), .call 156 [(.t 51), (.t 54), (.k (.int .i64 1))] true, none, 787968, 6, []⟩])
    (.reg [⟨(some 56), .load 3 true (.t 5), none, 851968, 0, []⟩,
      ⟨(some 57), .mv (.t 6), none, 852224, 1, []⟩,
      ⟨(some 58), .call 155 [(.t 56), (.t 57)] false, none, 852480, 2, []⟩,
      ⟨(some 59), .load 3 true (.t 5), none, 852736, 3, []⟩,
      ⟨(some 60), .mv (.t 7), none, 852992, 4, []⟩,
      ⟨(some 61), .call 155 [(.t 59), (.t 60)] false, none, 853248, 5, []⟩,
      ⟨(some 62), .call 156 [(.t 58), (.t 61), (.k (.int .i64 1))] true, none, 853504, 6, []⟩]))
    (.skip)))))
   (.reg [⟨(some 35), .mv (.t 7), none, 524288, 0, []⟩,
     ⟨(some 36), .bin .add (.t 35) (.k (.int .i64 1)), none, 524544, 1, []⟩,
     ⟨(some 7), .mv (.t 36), none, 524800, 2, []⟩]))))))
  (.seq (.reg [⟨(some 63), .load 3 true (.t 4), none, 917504, 0, []⟩,
    ⟨(some 64), .mv (.t 6), none, 917760, 1, []⟩,
    ⟨(some 65), .call 155 [(.t 63), (.t 64)] false, none, 918016, 2, []⟩,
    ⟨(some 66), .mv (.t 6), none, 918272, 3, []⟩,
    ⟨(some 67), .iaddr 1 (.t 65) (.t 66), none, 918528, 4, []⟩,
    ⟨(some 68), .load 1 false (.t 67), none, 918784, 5, []⟩,
    ⟨(some 69), .call 157 [(.t 68)] true, none, 919040, 6, []⟩,
    ⟨(some 70), .bin .xor (.t 69) (.k (.int .i64 1)), none, 919296, 7, []⟩,
    ⟨(some 8), .mv (.t 70), none, 919552, 8, []⟩])
  (.seq (.reg [⟨(some 71), .load 3 true (.t 4), none, 983040, 0, []⟩,
    ⟨(some 72), .mv (.t 6), none, 983296, 1, []⟩,
    ⟨(some 73), .call 155 [(.t 71), (.t 72)] false, none, 983552, 2, []⟩,
    ⟨(some 74), .load 3 true (.t 4), none, 983808, 3, []⟩,
    ⟨(some 75), .mv (.t 6), none, 984064, 4, []⟩,
    ⟨(some 76), .call 155 [(.t 74), (.t 75)] false, none, 984320, 5, []⟩,
    ⟨(some 77), .call 153 [(.t 76)] false, none, 984576, 6, []⟩,
    ⟨(some 78), .mv (.t 8), none, 984832, 7, []⟩,
    ⟨(some 79), .call 156 [(.t 73), (.t 77), (.t 78)] true, none, 985088, 8, []⟩])
  (.seq (.reg [⟨(some 80), .load 3 true (.t 5), none, 1048576, 0, []⟩,
    ⟨(some 81), .mv (.t 6), none, 1048832, 1, []⟩,
    ⟨(some 82), .call 155 [(.t 80), (.t 81)] false, none, 1049088, 2, []⟩,
    ⟨(some 83), .load 3 true (.t 5), none, 1049344, 3, []⟩,
    ⟨(some 84), .mv (.t 6), none, 1049600, 4, []⟩,
    ⟨(some 85), .call 155 [(.t 83), (.t 84)] false, none, 1049856, 5, []⟩,
    ⟨(some 86), .call 153 [(.t 85)] false, none, 1050112, 6, []⟩,
    ⟨(some 87), .mv (.t 8), none, 1050368, 7, []⟩,
    ⟨(some 88), .call 156 [(.t 82), (.t 86), (.t 87)] true, none, 1050624, 8, []⟩])
  (.seq (.reg [⟨(some 89), .faddr 0 (.t 1), none, 1114112, 0, []⟩,
    ⟨(some 90), .load 1 false (.t 89), none, 1114368, 1, []⟩,
    ⟨(some 91), .mv (.k (.int .i64 0)), none, 1114624, 2, []⟩])
  (.block 4 (.loop [1, 2, 4, 5, 6, 23, 24, 90, 91] [0, 1, 2, 3, 4, 5, 256, 259, 67072, 67073, 67074, 67075, 67584, 67587, 67841, 67842, 67843, 131584, 131585, 131586, 131587, 131840, 131843, 132097, 132098, 132099, 459264, 459265, 459266, 459267, 655617, 655618, 655619, 721408, 721409, 721410, 721411, 786944, 786945, 786946, 786947, 787712, 787713, 787714, 787715, 852480, 852481, 852482, 852483, 853248, 853249, 853250, 853251, 918016, 918017, 918018, 918019, 983552, 983553, 983554, 983555, 984320, 984321, 984322, 984323, 984576, 984577, 984578, 984579, 1049088, 1049089, 1049090, 1049091, 1049856, 1049857, 1049858, 1049859, 1050112, 1050113, 1050114, 1050115, 1704193, 1704194, 1704195]
   (.seq (.reg [⟨(some 92), .bin .lss (.t 91) (.t 90), none, 1179648, 0, []⟩])
   (.seq (.cond (.t 92)
    (.skip)
    (.exit 4))
   (.seq (.block 5 (.seq (.reg [⟨(some 93), .mv (.t 91), none, 1245184, 0, []⟩,
     ⟨(some 9), .mv (.t 93), none, 1245440, 1, []⟩])
   (.seq (.reg [⟨(some 94), .load 3 true (.t 4), none, 1310720, 0, []⟩,
     ⟨(some 95), .mv (.t 9), none, 1310976, 1, []⟩,
     ⟨(some 96), .call 155 [(.t 94), (.t 95)] false, none, 1311232, 2, []⟩,
     ⟨(some 97), .mv (.t 6), none, 1311488, 3, []⟩,
     ⟨(some 98), .iaddr 1 (.t 96) (.t 97), none, 1311744, 4, []⟩,
     ⟨(some 99), .load 1 false (.t 98), none, 1312000, 5, []⟩,
     ⟨(some 10), .mv (.t 99), none, 1312256, 6, []⟩])
   (.seq (.reg [⟨(some 100), .mv (.t 9), none, 1376256, 0, []⟩,
     ⟨(some 101), .mv (.t 6), none, 1376512, 1, []⟩,
     ⟨(some 102), .bin .neq (.t 100) (.t 101), none, 1376768, 2, []⟩,
     ⟨(some 103), .mv (.t 102), none, 1377024, 3, []⟩,
     ⟨(some 104), .mv (.t 10), (some (some 103, true)), 1377280, 4, []⟩,
     ⟨(some 105), .bin .neq (.t 104) (.k (.int .i64 0)), (some (some 103, true)), 1377536, 5, []⟩,
     ⟨(some 106), .pick (.t 103) (.t 105) (.k (.bool false)), none, 1377792, 6, []⟩])
   (.cond (.t 106)
    (.seq (.reg [⟨(some 107), .load 3 true (.t 4), none, 1441792, 0, []⟩,
      ⟨(some 108), .mv (.t 9), none, 1442048, 1, []⟩,
      ⟨(some 109), .call 155 [(.t 107), (.t 108)] false, none, 1442304, 2, []⟩,
      ⟨(some 110), .load 3 true (.t 4), none, 1442560, 3, []⟩,
      ⟨(some 111), .mv (.t 6), none, 1442816, 4, []⟩,
      ⟨(some 112), .call 155 [(.t 110), (.t 111)] false, none, 1443072, 5, []⟩,
      ⟨(some 113), .mv (.t 10), none, 1443328, 6, []⟩,
      ⟨(some 114), .call 156 [(.t 109), (.t 112), (.t 113)] true, none, 1443584, 7, []⟩])
    (.reg [⟨(some 115), .load 3 true (.t 5), none, 1507328, 0, []⟩,
      ⟨(some 116), .mv (.t 9), none, 1507584, 1, []⟩,
      ⟨(some 117), .call 155 [(.t 115), (.t 116)] false, none, 1507840, 2, []⟩,
      ⟨(some 118), .load 3 true (.t 5), none, 1508096, 3, []⟩,
      ⟨(some 119), .mv (.t 6), none, 1508352, 4, []⟩,
      ⟨(some 120), .call 155 [(.t 118), (.t 119)] false, none, 1508608, 5, []⟩,
      ⟨(some 121), .mv (.t 10), none, 1508864, 6, []⟩,
      ⟨(some 122), .call 156 [(.t 117), (.t 120), (.t 121)] true, none, 1509120, 7, []⟩]))
    (.skip))))))
   (.reg [⟨(some 123), .bin .add (.t 91) (.k (.int .i64 1)), none, 1572864, 0, []⟩,
     ⟨(some 91), .mv (.t 123), none, 1573120, 1, []⟩])))))))))))))
  (.reg [⟨(some 124), .bin .add (.t 24) (.k (.int .i64 1)), none, 1638400, 0, []⟩,
    ⟨(some 24), .mv (.t 124), none, 1638656, 1, []⟩])))))))
 (.seq (.reg [⟨(some 125), .load 3 true (.t 5), none, 1703936, 0, []⟩,
   ⟨none, .store 3 (.t 2) (.t 125), none, 1704192, 1, []⟩,
   ⟨(some 3), .mv (.k (.bool true)), none, 1704448, 2, []⟩])
 (.ret)))))⟩
/-- loop.example/g00849/impl.generator -/
def F129 : F := ⟨2, 40, [.cell 4 3 true],
 .seq (.reg [⟨(some 4), .alloc [(.int .i64 0), (.int .i64 0), (.nil true 1)], none, 0, 0, []⟩])
 (.seq (.reg [⟨(some 8), .mv (.t 0), none, 65536, 0, []⟩,
   ⟨(some 9), .call 154 [(.t 8)] false, none, 65792, 1, []⟩,
   ⟨(some 5), .alloc [(.int .i64 0), (.int .i64 0), (.nil true 1)], none, 66048, 2, []⟩,
   ⟨none, .store 3 (.t 5) (.t 9), none, 66304, 3, []⟩])
 (.seq (.reg [⟨(some 10), .mv (.t 0), none, 131072, 0, []⟩,
   ⟨(some 11), .mv (.t 1), none, 131328, 1, []⟩,
   ⟨(some 12), .bin .add (.t 10) (.t 11), none, 131584, 2, []⟩,
   ⟨(some 13), .faddr 0 (.t 5), none, 131840, 3, []⟩,
   ⟨none, .store 1 (.t 13) (.t 12), none, 132096, 4, []⟩])
 (.seq (.seq (.reg [⟨(some 14), .mv (.t 1), none, 196608, 0, []⟩,
   ⟨(some 15), .mv (.k (.int .i64 0)), none, 196864, 1, []⟩])
 (.block 0 (.loop [0, 4, 5, 14, 15] [0, 3, 65792, 65793, 65794, 65795, 66048, 66051, 66305, 66306, 66307, 132097, 786689, 786690, 786691]
  (.seq (.reg [⟨(some 16), .bin .lss (.t 15) (.t 14), none, 262144, 0, []⟩])
  (.seq (.cond (.t 16)
   (.skip)
   (.exit 0))
  (.seq (.block 1 (.seq (.reg [⟨(some 17), .mv (.t 15), none, 327680, 0, []⟩,
    ⟨(some 6), .mv (.t 17), none, 327936, 1, []⟩])
  (.seq (.reg [⟨(some 18), .mv (.t 0), none, 393216, 0, []⟩,
    ⟨(some 19), .mv (.k (.int .i64 0)), none, 393472, 1, []⟩])
  (.block 2 (.loop [0, 4, 5, 6, 14, 15, 18, 19] [0, 3, 65792, 65793, 65794, 65795, 66048, 66051, 66305, 66306, 66307, 132097, 786689, 786690, 786691]
   (.seq (.reg [⟨(some 20), .bin .lss (.t 19) (.t 18), none, 458752, 0, []⟩])
   (.seq (.cond (.t 20)
    (.skip)
    (.exit 2))
   (.seq (.block 3 (.seq (.reg [⟨(some 21), .mv (.t 19), none, 524288, 0, []⟩,
     ⟨(some 7), .mv (.t 21), none, 524544, 1, []⟩])
   (.reg [⟨(some 22), .faddr 2 (.t 5), none, 589824, 0, []⟩,
     ⟨(some 23), .load 1 false (.t 22), none, 590080, 1, []⟩,
     ⟨(some 24), .mv (.t 0), none, 590336, 2, []⟩,
     ⟨(some 25), .mv (.t 6), none, 590592, 3, []⟩,
     ⟨(some 26), .bin .add (.t 24) (.t 25), none, 590848, 4, []⟩,
     ⟨(some 27), .mv (.t 0), none, 591104, 5, []⟩,
     ⟨(some 28), .mv (.t 6), none, 591360, 6, []⟩,
     ⟨(some 29), .bin .add (.t 27) (.t 28), none, 591616, 7, []⟩,
     ⟨(some 30), .mv (.t 7), none, 591872, 8, []⟩,
     ⟨(some 31), .bin .xor (.t 29) (.t 30), none, 592128, 9, []⟩,
     ⟨(some 32), .call 157 [(.t 31)] true, none, 592384, 10, []⟩,
     ⟨(some 33), .call 158 [(.t 26), (.t 32)] true, none, 592640, 11, []⟩,
     ⟨(some 34), .bslice true 1 [(.int .i64 0)] 1 [(0, (.t 33))], none, 592896, 12, []⟩,
     ⟨(some 35), .app true 1 8 (.t 23) (.t 34), none, 593152, 13, []⟩,
     ⟨(some 36), .faddr 2 (.t 5), none, 593408, 14, []⟩,
     ⟨none, .store 1 (.t 36) (.t 35), none, 593664, 15, []⟩])))
   (.reg [⟨(some 37), .bin .add (.t 19) (.k (.int .i64 1)), none, 655360, 0, []⟩,
     ⟨(some 19), .mv (.t 37), none, 655616, 1, []⟩])))))))))
  (.reg [⟨(some 38), .bin .add (.t 15) (.k (.int .i64 1)), none, 720896, 0, []⟩,
    ⟨(some 15), .mv (.t 38), none, 721152, 1, []⟩])))))))
 (.seq (.reg [⟨(some 39), .load 3 true (.t 5), none, 786432, 0, []⟩,
   ⟨none, .store 3 (.t 4) (.t 39), none, 786688, 1, []⟩])
 (.ret)))))⟩
/-- (loop.example/g00849/impl.Matrix).rows -/
def F130 : F := ⟨2, 28, [.cell 4 3 true],
 .seq (.reg [⟨(some 2), .box (.t 0), none, 0, 0, []⟩,
   ⟨(some 4), .alloc [(.int .i64 0), (.int .i64 0), (.nil true 1)], none, 256, 1, []⟩])
 (.seq (.reg [⟨(some 8), .mv (.t 1), none, 65536, 0, []⟩,
   ⟨(some 9), .len false (.t 8), none, 65792, 1, []⟩,
   ⟨(some 10), .faddr 1 (.t 2), none, 66048, 2, []⟩,
   ⟨(some 11), .load 1 false (.t 10), none, 66304, 3, []⟩,
   ⟨(some 12), .build [(.int .i64 0), (.int .i64 0), (.nil true 1)] [(0, 1, (.t 9)), (1, 1, (.t 11))], none, 66560, 4, []⟩,
   ⟨(some 5), .alloc [(.int .i64 0), (.int .i64 0), (.nil true 1)], none, 66816, 5, []⟩,
   ⟨none, .store 3 (.t 5) (.t 12), none, 67072, 6, []⟩])
 (.seq (.seq (.reg [⟨(some 13), .mv (.t 1), none, 131072, 0, []⟩,
   ⟨(some 14), .len false (.t 13), none, 131328, 1, []⟩,
   ⟨(some 15), .mv (.k (.int .i64 0)), none, 131584, 2, []⟩])
 (.block 0 (.loop [2, 4, 5, 13, 14, 15] [0, 1, 2, 3, 4, 5, 256, 259, 66816, 66819, 67073, 67074, 67075, 459009, 459010, 459011]
  (.seq (.reg [⟨(some 16), .bin .lss (.t 15) (.t 14), none, 196608, 0, []⟩])
  (.seq (.cond (.t 16)
   (.skip)
   (.exit 0))
  (.seq (.block 1 (.seq (.reg [⟨(some 17), .iaddr 1 (.t 13) (.t 15), none, 262144, 0, []⟩,
    ⟨(some 18), .load 1 false (.t 17), none, 262400, 1, []⟩,
    ⟨(some 7), .mv (.t 18), none, 262656, 2, []⟩])
  (.reg [⟨(some 19), .faddr 2 (.t 5), none, 327680, 0, []⟩,
    ⟨(some 20), .load 1 false (.t 19), none, 327936, 1, []⟩,
    ⟨(some 21), .load 3 true (.t 2), none, 328192, 2, []⟩,
    ⟨(some 22), .mv (.t 7), none, 328448, 3, []⟩,
    ⟨(some 23), .call 155 [(.t 21), (.t 22)] false, none, 328704, 4, []⟩,
    ⟨(some 24), .app true 1 8 (.t 20) (.t 23), none, 328960, 5, []⟩,
    ⟨(some 25), .faddr 2 (.t 5), none, 329216, 6, []⟩,
    ⟨none, .store 1 (.t 25) (.t 24), none, 329472, 7, []⟩])))
  (.reg [⟨(some 26), .bin .add (.t 15) (.k (.int .i64 1)), none, 393216, 0, []⟩,
    ⟨(some 15), .mv (.t 26), none, 393472, 1, []⟩])))))))
 (.seq (.reg [⟨(some 27), .load 3 true (.t 5), none, 458752, 0, []⟩,
   ⟨none, .store 3 (.t 4) (.t 27), none, 459008, 1, []⟩])
 (.ret))))⟩
/-- (loop.example/g00849/impl.Matrix).pieces -/
def F131 : F := ⟨2, 44, [.t 4],
 .seq (.reg [⟨(some 2), .box (.t 0), none, 0, 0, []⟩,
   ⟨(some 4), .nil0 true 1, none, 256, 1, []⟩])
 (.seq (.reg [⟨(some 5), .nil0 true 1, none, 65536, 0, []⟩])
 (.seq (.seq (.reg [⟨(some 10), .faddr 0 (.t 2), none, 131072, 0, []⟩,
   ⟨(some 11), .load 1 false (.t 10), none, 131328, 1, []⟩,
   ⟨(some 12), .mv (.k (.int .i64 0)), none, 131584, 2, []⟩])
 (.block 0 (.loop [1, 2, 5, 11, 12] [0, 1, 2, 3, 4, 5, 256, 65536]
  (.seq (.reg [⟨(some 13), .bin .lss (.t 12) (.t 11), none, 196608, 0, []⟩])
  (.seq (.cond (.t 13)
   (.skip)
   (.exit 0))
  (.seq (.block 1 (.seq (.reg [⟨(some 14), .mv (.t 12), none, 262144, 0, []⟩,
    ⟨(some 6), .mv (.t 14), none, 262400, 1, []⟩])
  (.seq (.reg [⟨(some 15), .mv (.t 1), none, 327680, 0, []⟩,
    ⟨(some 16), .iaddr 1 (.t 15) (.k (.int .i64 0)), none, 327936, 1, []⟩,
    ⟨(some 17), .load 1 false (.t 16), none, 328192, 2, []⟩,
    ⟨(some 18), .len true (.t 17), none, 328448, 3, []⟩,
    ⟨(some 19), .call 135 [(.k (.str ⟨#[0]⟩)), (.t 18)] true, none, 328704, 4, []⟩,
    ⟨(some 7), .mv (.t 19), none, 328960, 5, []⟩])
  (.seq (.seq (.reg [⟨(some 20), .load 3 true (.t 2), none, 393216, 0, []⟩,
    ⟨(some 21), .mv (.t 6), none, 393472, 1, []⟩,
    ⟨(some 22), .call 155 [(.t 20), (.t 21)] false, none, 393728, 2, []⟩,
    ⟨(some 23), .len false (.t 22), none, 393984, 3, []⟩,
    ⟨(some 24), .mv (.k (.int .i64 0)), none, 394240, 4, []⟩])
  (.block 2 (.loop [1, 2, 5, 7, 11, 12, 22, 23, 24] [0, 1, 2, 3, 4, 5, 256, 65536, 393728, 393729, 393730, 393731, 721408, 721664]
   (.seq (.reg [⟨(some 25), .bin .lss (.t 24) (.t 23), none, 458752, 0, []⟩])
   (.seq (.cond (.t 25)
    (.skip)
    (.exit 2))
   (.seq (.block 3 (.seq (.reg [⟨(some 26), .mv (.t 24), none, 524288, 0, []⟩,
     ⟨(some 27), .iaddr 1 (.t 22) (.t 24), none, 524544, 1, []⟩,
     ⟨(some 28), .load 1 false (.t 27), none, 524800, 2, []⟩,
     ⟨(some 8), .mv (.t 26), none, 525056, 3, []⟩,
     ⟨(some 9), .mv (.t 28), none, 525312, 4, []⟩])
   (.reg [⟨(some 29), .mv (.t 7), none, 589824, 0, []⟩,
     ⟨(some 30), .mv (.t 9), none, 590080, 1, []⟩,
     ⟨(some 31), .mv (.t 1), none, 590336, 2, []⟩,
     ⟨(some 32), .mv (.t 8), none, 590592, 3, []⟩,
     ⟨(some 33), .iaddr 1 (.t 31) (.t 32), none, 590848, 4, []⟩,
     ⟨(some 34), .load 1 false (.t 33), none, 591104, 5, []⟩,
     ⟨(some 35), .call 159 [(.t 30), (.t 34)] true, none, 591360, 6, []⟩,
     ⟨(some 36), .call 147 [(.t 29), (.t 35)] true, none, 591616, 7, []⟩,
     ⟨(some 7), .mv (.t 36), none, 591872, 8, []⟩])))
   (.reg [⟨(some 37), .bin .add (.t 24) (.k (.int .i64 1)), none, 655360, 0, []⟩,
     ⟨(some 24), .mv (.t 37), none, 655616, 1, []⟩])))))))
  (.reg [⟨(some 38), .mv (.t 5), none, 720896, 0, []⟩,
    ⟨(some 39), .mv (.t 7), none, 721152, 1, []⟩,
    ⟨(some 40), .bslice true 1 [(.str ByteArray.empty)] 1 [(0, (.t 39))], none, 721408, 2, []⟩,
    ⟨(some 41), .app true 1 16 (.t 38) (.t 40), none, 721664, 3, []⟩,
    ⟨(some 5), .mv (.t 41), none, 721920, 4, []⟩])))))
  (.reg [⟨(some 42), .bin .add (.t 12) (.k (.int .i64 1)), none, 786432, 0, []⟩,
    ⟨(some 12), .mv (.t 42), none, 786688, 1, []⟩])))))))
 (.seq (.reg [⟨(some 43), .mv (.t 5), none, 851968, 0, []⟩,
   ⟨(some 4), .mv (.t 43), none, 852224, 1, []⟩])
 (.ret))))⟩
/-- loop.example/g00849/spec.l03Pieces -/
def F132 : F := ⟨2, 48, [.t 4],
 .seq (.reg [⟨(some 2), .box (.t 0), none, 0, 0, []⟩,
   ⟨(some 4), .nil0 true 1, none, 256, 1, []⟩])
 (.seq (.reg [⟨(some 9), .bslice true 1 [(.str ByteArray.empty)] 0 [], none, 65536, 0, []⟩,
   ⟨(some 5), .mv (.t 9), none, 65792, 1, []⟩])
 (.seq (.seq (.reg [⟨(some 6), .mv (.k (.int .i64 0)), none, 131072, 0, []⟩])
 (.block 0 (.loop [1, 2, 5, 6] [0, 1, 2, 3, 4, 5, 256, 65536]
  (.seq (.seq (.reg [⟨(some 10), .mv (.t 6), none, 196608, 0, []⟩,
    ⟨(some 11), .faddr 0 (.t 2), none, 196864, 1, []⟩,
    ⟨(some 12), .load 1 false (.t 11), none, 197120, 2, []⟩,
    ⟨(some 13), .bin .lss (.t 10) (.t 12), none, 197376, 3, []⟩])
  (.cond (.t 13)
   (.skip)
   (.exit 0)))
  (.seq (.block 1 (.seq (.reg [⟨(some 16), .mv (.t 1), none, 327680, 0, []⟩,
    ⟨(some 17), .iaddr 1 (.t 16) (.k (.int .i64 0)), none, 327936, 1, []⟩,
    ⟨(some 18), .load 1 false (.t 17), none, 328192, 2, []⟩,
    ⟨(some 19), .call 160 [(.k (.int .i64 0)), (.t 18)] true, none, 328448, 3, []⟩,
    ⟨(some 7), .mv (.t 19), none, 328704, 4, []⟩])
  (.seq (.seq (.reg [⟨(some 8), .mv (.k (.int .i64 0)), none, 393216, 0, []⟩])
  (.block 2 (.loop [1, 2, 5, 6, 7, 8] [0, 1, 2, 3, 4, 5, 256, 65536, 655872, 656128]
   (.seq (.seq (.reg [⟨(some 20), .mv (.t 8), none, 458752, 0, []⟩,
     ⟨(some 21), .faddr 1 (.t 2), none, 459008, 1, []⟩,
     ⟨(some 22), .load 1 false (.t 21), none, 459264, 2, []⟩,
     ⟨(some 23), .bin .lss (.t 20) (.t 22), none, 459520, 3, []⟩])
   (.cond (.t 23)
    (.skip)
    (.exit 2)))
   (.seq (.block 3 (.reg [⟨(some 26), .mv (.t 7), none, 589824, 0, []⟩,
     ⟨(some 27), .faddr 2 (.t 2), none, 590080, 1, []⟩,
     ⟨(some 28), .load 1 false (.t 27), none, 590336, 2, []⟩,
     ⟨(some 29), .mv (.t 6), none, 590592, 3, []⟩,
     ⟨(some 30), .faddr 1 (.t 2), none, 590848, 4, []⟩,
     ⟨(some 31), .load 1 false (.t 30), none, 591104, 5, []⟩,
     ⟨(some 32), .bin .mul (.t 29) (.t 31), none, 591360, 6, []⟩,
     ⟨(some 33), .mv (.t 8), none, 591616, 7, []⟩,
     ⟨(some 34), .bin .add (.t 32) (.t 33), none, 591872, 8, []⟩,
     ⟨(some 35), .iaddr 1 (.t 28) (.t 34), none, 592128, 9, []⟩,
     ⟨(some 36), .load 1 false (.t 35), none, 592384, 10, []⟩,
     ⟨(some 37), .mv (.t 1), none, 592640, 11, []⟩,
     ⟨(some 38), .mv (.t 8), none, 592896, 12, []⟩,
     ⟨(some 39), .iaddr 1 (.t 37) (.t 38), none, 593152, 13, []⟩,
     ⟨(some 40), .load 1 false (.t 39), none, 593408, 14, []⟩,
     ⟨(some 41), .call 160 [(.t 36), (.t 40)] true, none, 593664, 15, []⟩,
     ⟨(some 42), .call 146 [(.t 26), (.t 41)] true, none, 593920, 16, []⟩,
     ⟨(some 7), .mv (.t 42), none, 594176, 17, []⟩]))
   (.reg [⟨(some 24), .mv (.t 8), none, 524288, 0, []⟩,
     ⟨(some 25), .bin .add (.t 24) (.k (.int .i64 1)), none, 524544, 1, []⟩,
     ⟨(some 8), .mv (.t 25), none, 524800, 2, []⟩]))))))
  (.reg [⟨(some 43), .mv (.t 5), none, 655360, 0, []⟩,
    ⟨(some 44), .mv (.t 7), none, 655616, 1, []⟩,
    ⟨(some 45), .bslice true 1 [(.str ByteArray.empty)] 1 [(0, (.t 44))], none, 655872, 2, []⟩,
    ⟨(some 46), .app true 1 16 (.t 43) (.t 45), none, 656128, 3, []⟩,
    ⟨(some 5), .mv (.t 46), none, 656384, 4, []⟩]))))
  (.reg [⟨(some 14), .mv (.t 6), none, 262144, 0, []⟩,
    ⟨(some 15), .bin .add (.t 14) (.k (.int .i64 1)), none, 262400, 1, []⟩,
    ⟨(some 6), .mv (.t 15), none, 262656, 2, []⟩]))))))
 (.seq (.reg [⟨(some 47), .mv (.t 5), none, 720896, 0, []⟩,
   ⟨(some 4), .mv (.t 47), none, 721152, 1, []⟩])
 (.ret))))⟩
/-- loop.example/g00849/spec.l03Code -/
def F133 : F := ⟨2, 40, [.cell 4 3 true],
 .seq (.reg [⟨(some 4), .alloc [(.int .i64 0), (.int .i64 0), (.nil true 1)], none, 0, 0, []⟩])
 (.seq (.reg [⟨(some 8), .mv (.t 0), none, 65536, 0, []⟩,
   ⟨(some 9), .call 161 [(.t 8)] false, none, 65792, 1, []⟩,
   ⟨(some 5), .alloc [(.int .i64 0), (.int .i64 0), (.nil true 1)], none, 66048, 2, []⟩,
   ⟨none, .store 3 (.t 5) (.t 9), none, 66304, 3, []⟩])
 (.seq (.reg [⟨(some 10), .mv (.t 0), none, 131072, 0, []⟩,
   ⟨(some 11), .mv (.t 1), none, 131328, 1, []⟩,
   ⟨(some 12), .bin .add (.t 10) (.t 11), none, 131584, 2, []⟩,
   ⟨(some 13), .faddr 0 (.t 5), none, 131840, 3, []⟩,
   ⟨none, .store 1 (.t 13) (.t 12), none, 132096, 4, []⟩])
 (.seq (.seq (.reg [⟨(some 6), .mv (.k (.int .i64 0)), none, 196608, 0, []⟩])
 (.block 0 (.loop [0, 1, 4, 5, 6] [0, 3, 65792, 65793, 65794, 65795, 66048, 66051, 66305, 66306, 66307, 132097, 655617, 655618, 655619]
  (.seq (.seq (.reg [⟨(some 14), .mv (.t 6), none, 262144, 0, []⟩,
    ⟨(some 15), .mv (.t 1), none, 262400, 1, []⟩,
    ⟨(some 16), .bin .lss (.t 14) (.t 15), none, 262656, 2, []⟩])
  (.cond (.t 16)
   (.skip)
   (.exit 0)))
  (.seq (.block 1 (.seq (.reg [⟨(some 7), .mv (.k (.int .i64 0)), none, 393216, 0, []⟩])
  (.block 2 (.loop [0, 1, 4, 5, 6, 7] [0, 3, 65792, 65793, 65794, 65795, 66048, 66051, 66305, 66306, 66307, 132097, 655617, 655618, 655619]
   (.seq (.seq (.reg [⟨(some 19), .mv (.t 7), none, 458752, 0, []⟩,
     ⟨(some 20), .mv (.t 0), none, 459008, 1, []⟩,
     ⟨(some 21), .bin .lss (.t 19) (.t 20), none, 459264, 2, []⟩])
   (.cond (.t 21)
    (.skip)
    (.exit 2)))
   (.seq (.block 3 (.reg [⟨(some 24), .faddr 2 (.t 5), none, 589824, 0, []⟩,
     ⟨(some 25), .load 1 false (.t 24), none, 590080, 1, []⟩,
     ⟨(some 26), .mv (.t 0), none, 590336, 2, []⟩,
     ⟨(some 27), .mv (.t 6), none, 590592, 3, []⟩,
     ⟨(some 28), .bin .add (.t 26) (.t 27), none, 590848, 4, []⟩,
     ⟨(some 29), .mv (.t 0), none, 591104, 5, []⟩,
     ⟨(some 30), .mv (.t 6), none, 591360, 6, []⟩,
     ⟨(some 31), .bin .add (.t 29) (.t 30), none, 591616, 7, []⟩,
     ⟨(some 32), .mv (.t 7), none, 591872, 8, []⟩,
     ⟨(some 33), .bin .xor (.t 31) (.t 32), none, 592128, 9, []⟩,
     ⟨(some 34), .call 163 [(.t 33)] true, none, 592384, 10, []⟩,
     ⟨(some 35), .call 162 [(.t 28), (.t 34)] true, none, 592640, 11, []⟩,
     ⟨(some 36), .bslice true 1 [(.int .i64 0)] 1 [(0, (.t 35))], none, 592896, 12, []⟩,
     ⟨(some 37), .app true 1 8 (.t 25) (.t 36), none, 593152, 13, []⟩,
     ⟨(some 38), .faddr 2 (.t 5), none, 593408, 14, []⟩,
     ⟨none, .store 1 (.t 38) (.t 37), none, 593664, 15, []⟩]))
   (.reg [⟨(some 22), .mv (.t 7), none, 524288, 0, []⟩,
     ⟨(some 23), .bin .add (.t 22) (.k (.int .i64 1)), none, 524544, 1, []⟩,
     ⟨(some 7), .mv (.t 23), none, 524800, 2, []⟩])))))))
  (.reg [⟨(some 17), .mv (.t 6), none, 327680, 0, []⟩,
    ⟨(some 18), .bin .add (.t 17) (.k (.int .i64 1)), none, 327936, 1, []⟩,
    ⟨(some 6), .mv (.t 18), none, 328192, 2, []⟩]))))))
 (.seq (.reg [⟨(some 39), .load 3 true (.t 5), none, 655360, 0, []⟩,
   ⟨none, .store 3 (.t 4) (.t 39), none, 655616, 1, []⟩])
 (.ret)))))⟩
/-- (*loop.example/g00849/spec.l00Src).pick -/
def F134 : F := ⟨2, 20, [.t 4],
 .seq (.reg [⟨(some 4), .mv (.k (.int .i64 0)), none, 0, 0, []⟩])
 (.seq (.seq (.reg [⟨(some 6), .mv (.t 1), none, 65536, 0, []⟩,
   ⟨(some 7), .bin .leq (.t 6) (.k (.int .i64 1)), none, 65792, 1, []⟩])
 (.cond (.t 7)
  (.seq (.reg [⟨(some 4), .mv (.k (.int .i64 0)), none, 131072, 0, []⟩])
  (.ret))
  (.skip)))
 (.seq (.reg [⟨(some 8), .mv (.t 0), none, 196608, 0, []⟩,
   ⟨(some 9), .call 148 [(.t 8)] true, none, 196864, 1, []⟩,
   ⟨(some 5), .mv (.t 9), none, 197120, 2, []⟩])
 (.seq (.seq (.reg [⟨(some 10), .mv (.t 1), none, 262144, 0, []⟩,
   ⟨(some 11), .bin .gtr (.t 10) (.k (.int .i64 200)), none, 262400, 1, []⟩])
 (.cond (.t 11)
  (.reg [⟨(some 12), .mv (.t 5), none, 327680, 0, []⟩,
    ⟨(some 13), .bin .mul (.t 12) (.k (.int .i64 256)), none, 327936, 1, []⟩,
    ⟨(some 14), .mv (.t 0), none, 328192, 2, []⟩,
    ⟨(some 15), .call 148 [(.t 14)] true, none, 328448, 3, []⟩,
    ⟨(some 16), .bin .add (.t 13) (.t 15), none, 328704, 4, []⟩,
    ⟨(some 5), .mv (.t 16), none, 328960, 5, []⟩])
  (.skip)))
 (.seq (.reg [⟨(some 17), .mv (.t 5), none, 393216, 0, []⟩,
   ⟨(some 18), .mv (.t 1), none, 393472, 1, []⟩,
   ⟨(some 19), .bin .rem (.t 17) (.t 18), none, 393728, 2, []⟩,
   ⟨(some 4), .mv (.t 19), none, 393984, 3, []⟩])
 (.ret)))))⟩
/-- loop.example/g00849/spec.l02Sum -/
def F146 : F := ⟨2, 26, [.t 4],
 .seq (.reg [⟨(some 4), .mv (.k (.str ByteArray.empty)), none, 0, 0, []⟩])
 (.seq (.reg [⟨(some 7), .bslice true 1 [(.int .u8 0)] 0 [], none, 65536, 0, []⟩,
   ⟨(some 5), .mv (.t 7), none, 65792, 1, []⟩])
 (.seq (.seq (.reg [⟨(some 6), .mv (.k (.int .i64 0)), none, 131072, 0, []⟩])
 (.block 0 (.loop [0, 1, 5, 6] [65536]
  (.seq (.seq (.reg [⟨(some 8), .mv (.t 6), none, 196608, 0, []⟩,
    ⟨(some 9), .mv (.t 0), none, 196864, 1, []⟩,
    ⟨(some 10), .len true (.t 9), none, 197120, 2, []⟩,
    ⟨(some 11), .bin .lss (.t 8) (.t 10), none, 197376, 3, []⟩])
  (.cond (.t 11)
   (.skip)
   (.exit 0)))
  (.seq (.block 1 (.reg [⟨(some 14), .mv (.t 5), none, 327680, 0, []⟩,
    ⟨(some 15), .mv (.t 0), none, 327936, 1, []⟩,
    ⟨(some 16), .mv (.t 6), none, 328192, 2, []⟩,
    ⟨(some 17), .idx (.t 15) (.t 16), none, 328448, 3, []⟩,
    ⟨(some 18), .mv (.t 1), none, 328704, 4, []⟩,
    ⟨(some 19), .mv (.t 6), none, 328960, 5, []⟩,
    ⟨(some 20), .idx (.t 18) (.t 19), none, 329216, 6, []⟩,
    ⟨(some 21), .bin .xor (.t 17) (.t 20), none, 329472, 7, []⟩,
    ⟨(some 22), .bslice true 1 [(.int .u8 0)] 1 [(0, (.t 21))], none, 329728, 8, []⟩,
    ⟨(some 23), .app true 1 1 (.t 14) (.t 22), none, 329984, 9, []⟩,
    ⟨(some 5), .mv (.t 23), none, 330240, 10, []⟩]))
  (.reg [⟨(some 12), .mv (.t 6), none, 262144, 0, []⟩,
    ⟨(some 13), .bin .add (.t 12) (.k (.int .i64 1)), none, 262400, 1, []⟩,
    ⟨(some 6), .mv (.t 13), none, 262656, 2, []⟩]))))))
 (.seq (.reg [⟨(some 24), .mv (.t 5), none, 393216, 0, []⟩,
   ⟨(some 25), .b2s (.t 24), none, 393472, 1, []⟩,
   ⟨(some 4), .mv (.t 25), none, 393728, 2, []⟩])
 (.ret))))⟩
/-- loop.example/g00849/impl.summed -/
def F147 : F := ⟨2, 28, [.t 4],
 .seq (.reg [⟨(some 4), .mv (.k (.str ByteArray.empty)), none, 0, 0, []⟩])
 (.seq (.reg [⟨(some 7), .mv (.t 0), none, 65536, 0, []⟩,
   ⟨(some 8), .len true (.t 7), none, 65792, 1, []⟩,
   ⟨(some 9), .mksl true 1 1 [(.int .u8 0)] (.t 8) (.t 8), none, 66048, 2, []⟩,
   ⟨(some 5), .mv (.t 9), none, 66304, 3, []⟩])
 (.seq (.seq (.reg [⟨(some 10), .mv (.t 5), none, 131072, 0, []⟩,
   ⟨(some 11), .len false (.t 10), none, 131328, 1, []⟩,
   ⟨(some 12), .mv (.k (.int .i64 0)), none, 131584, 2, []⟩])
 (.block 0 (.loop [0, 1, 5, 11, 12] [66048]
  (.seq (.reg [⟨(some 13), .bin .lss (.t 12) (.t 11), none, 196608, 0, []⟩])
  (.seq (.cond (.t 13)
   (.skip)
   (.exit 0))
  (.seq (.block 1 (.seq (.reg [⟨(some 14), .mv (.t 12), none, 262144, 0, []⟩,
    ⟨(some 6), .mv (.t 14), none, 262400, 1, []⟩])
  (.reg [⟨(some 15), .mv (.t 5), none, 327680, 0, []⟩,
    ⟨(some 16), .mv (.t 6), none, 327936, 1, []⟩,
    ⟨(some 17), .mv (.t 0), none, 328192, 2, []⟩,
    ⟨(some 18), .mv (.t 6), none, 328448, 3, []⟩,
    ⟨(some 19), .idx (.t 17) (.t 18), none, 328704, 4, []⟩,
    ⟨(some 20), .mv (.t 1), none, 328960, 5, []⟩,
    ⟨(some 21), .mv (.t 6), none, 329216, 6, []⟩,
    ⟨(some 22), .idx (.t 20) (.t 21), none, 329472, 7, []⟩,
    ⟨(some 23), .bin .xor (.t 19) (.t 22), none, 329728, 8, []⟩,
    ⟨(some 24), .iaddr 1 (.t 15) (.t 16), none, 329984, 9, []⟩,
    ⟨none, .store 1 (.t 24) (.t 23), none, 330240, 10, []⟩])))
  (.reg [⟨(some 25), .bin .add (.t 12) (.k (.int .i64 1)), none, 393216, 0, []⟩,
    ⟨(some 12), .mv (.t 25), none, 393472, 1, []⟩])))))))
 (.seq (.reg [⟨(some 26), .mv (.t 5), none, 458752, 0, []⟩,
   ⟨(some 27), .b2s (.t 26), none, 459008, 1, []⟩,
   ⟨(some 4), .mv (.t 27), none, 459264, 2, []⟩])
 (.ret))))⟩
/-- (*loop.example/g00849/spec.l00Src).next -/
def F148 : F := ⟨1, 62, [.t 2],
 .seq (.reg [⟨(some 2), .mv (.k (.int .i64 0)), none, 0, 0, []⟩])
 (.seq (.reg [⟨(some 3), .mv (.k (.int .i64 0)), none, 65536, 0, []⟩])
 (.seq (.seq (.reg [⟨(some 4), .mv (.t 0), none, 131072, 0, []⟩,
   ⟨(some 5), .nilck (.t 4), none, 131328, 1, []⟩,
   ⟨(some 6), .faddr 1 (.t 5), none, 131584, 2, []⟩,
   ⟨(some 7), .load 1 false (.t 6), none, 131840, 3, []⟩,
   ⟨(some 8), .mv (.t 0), none, 132096, 4, []⟩,
   ⟨(some 9), .nilck (.t 8), none, 132352, 5, []⟩,
   ⟨(some 10), .faddr 0 (.t 9), none, 132608, 6, []⟩,
   ⟨(some 11), .load 1 false (.t 10), none, 132864, 7, []⟩,
   ⟨(some 12), .len false (.t 11), none, 133120, 8, []⟩,
   ⟨(some 13), .bin .lss (.t 7) (.t 12), none, 133376, 9, []⟩])
 (.cond (.t 13)
  (.reg [⟨(some 14), .mv (.t 0), none, 196608, 0, []⟩,
    ⟨(some 15), .nilck (.t 14), none, 196864, 1, []⟩,
    ⟨(some 16), .faddr 0 (.t 15), none, 197120, 2, []⟩,
    ⟨(some 17), .load 1 false (.t 16), none, 197376, 3, []⟩,
    ⟨(some 18), .mv (.t 0), none, 197632, 4, []⟩,
    ⟨(some 19), .nilck (.t 18), none, 197888, 5, []⟩,
    ⟨(some 20), .faddr 1 (.t 19), none, 198144, 6, []⟩,
    ⟨(some 21), .load 1 false (.t 20), none, 198400, 7, []⟩,
    ⟨(some 22), .iaddr 1 (.t 17) (.t 21), none, 198656, 8, []⟩,
    ⟨(some 23), .load 1 false (.t 22), none, 198912, 9, []⟩,
    ⟨(some 24), .conv .i64 (.t 23), none, 199168, 10, []⟩,
    ⟨(some 3), .mv (.t 24), none, 199424, 11, []⟩])
  (.skip)))
 (.seq (.reg [⟨(some 25), .mv (.t 0), none, 262144, 0, []⟩,
   ⟨(some 26), .nilck (.t 25), none, 262400, 1, []⟩,
   ⟨(some 27), .faddr 1 (.t 26), none, 262656, 2, []⟩,
   ⟨(some 28), .load 1 false (.t 27), none, 262912, 3, []⟩,
   ⟨(some 29), .bin .add (.t 28) (.k (.int .i64 1)), none, 263168, 4, []⟩,
   ⟨(some 30), .nilck (.t 25), none, 263424, 5, []⟩,
   ⟨(some 31), .faddr 1 (.t 30), none, 263680, 6, []⟩,
   ⟨none, .store 1 (.t 31) (.t 29), none, 263936, 7, []⟩])
 (.seq (.reg [⟨(some 32), .mv (.t 0), none, 327680, 0, []⟩,
   ⟨(some 33), .mv (.t 0), none, 327936, 1, []⟩,
   ⟨(some 34), .nilck (.t 33), none, 328192, 2, []⟩,
   ⟨(some 35), .faddr 2 (.t 34), none, 328448, 3, []⟩,
   ⟨(some 36), .load 1 false (.t 35), none, 328704, 4, []⟩,
   ⟨(some 37), .bin .mul (.t 36) (.k (.int .u64 6364136223846793005)), none, 328960, 5, []⟩,
   ⟨(some 38), .mv (.t 3), none, 329216, 6, []⟩,
   ⟨(some 39), .conv .u64 (.t 38), none, 329472, 7, []⟩,
   ⟨(some 40), .bin .add (.t 37) (.t 39), none, 329728, 8, []⟩,
   ⟨(some 41), .bin .add (.t 40) (.k (.int .u64 1442695040888963407)), none, 329984, 9, []⟩,
   ⟨(some 42), .nilck (.t 32), none, 330240, 10, []⟩,
   ⟨(some 43), .faddr 2 (.t 42), none, 330496, 11, []⟩,
   ⟨none, .store 1 (.t 43) (.t 41), none, 330752, 12, []⟩])
 (.seq (.seq (.reg [⟨(some 44), .mv (.t 0), none, 393216, 0, []⟩,
   ⟨(some 45), .nilck (.t 44), none, 393472, 1, []⟩,
   ⟨(some 46), .faddr 1 (.t 45), none, 393728, 2, []⟩,
   ⟨(some 47), .load 1 false (.t 46), none, 393984, 3, []⟩,
   ⟨(some 48), .mv (.t 0), none, 394240, 4, []⟩,
   ⟨(some 49), .nilck (.t 48), none, 394496, 5, []⟩,
   ⟨(some 50), .faddr 0 (.t 49), none, 394752, 6, []⟩,
   ⟨(some 51), .load 1 false (.t 50), none, 395008, 7, []⟩,
   ⟨(some 52), .len false (.t 51), none, 395264, 8, []⟩,
   ⟨(some 53), .bin .leq (.t 47) (.t 52), none, 395520, 9, []⟩])
 (.cond (.t 53)
  (.seq (.reg [⟨(some 54), .mv (.t 3), none, 458752, 0, []⟩,
    ⟨(some 2), .mv (.t 54), none, 459008, 1, []⟩])
  (.ret))
  (.skip)))
 (.seq (.reg [⟨(some 55), .mv (.t 0), none, 524288, 0, []⟩,
   ⟨(some 56), .nilck (.t 55), none, 524544, 1, []⟩,
   ⟨(some 57), .faddr 2 (.t 56), none, 524800, 2, []⟩,
   ⟨(some 58), .load 1 false (.t 57), none, 525056, 3, []⟩,
   ⟨(some 59), .bin .shr (.t 58) (.k (.int .u64 40)), none, 525312, 4, []⟩,
   ⟨(some 60), .bin .and (.t 59) (.k (.int .u64 255)), none, 525568, 5, []⟩,
   ⟨(some 61), .conv .i64 (.t 60), none, 525824, 6, []⟩,
   ⟨(some 2), .mv (.t 61), none, 526080, 7, []⟩])
 (.ret)))))))⟩
/-- loop.example/g00849/spec.l03Inv -/
def F149 : F := ⟨1, 60, [.cell 2 3 true, .t 3],
 .seq (.reg [⟨(some 1), .box (.t 0), none, 0, 0, []⟩,
   ⟨(some 2), .alloc [(.int .i64 0), (.int .i64 0), (.nil true 1)], none, 256, 1, []⟩,
   ⟨(some 3), .mv (.k (.bool false)), none, 512, 2, []⟩])
 (.seq (.reg [⟨(some 9), .faddr 1 (.t 1), none, 65536, 0, []⟩,
   ⟨(some 10), .load 1 false (.t 9), none, 65792, 1, []⟩,
   ⟨(some 4), .mv (.t 10), none, 66048, 2, []⟩])
 (.seq (.reg [⟨(some 11), .faddr 2 (.t 1), none, 131072, 0, []⟩,
   ⟨(some 12), .load 1 false (.t 11), none, 131328, 1, []⟩,
   ⟨(some 13), .call 168 [(.t 12)] false, none, 131584, 2, []⟩,
   ⟨(some 5), .mv (.t 13), none, 131840, 3, []⟩])
 (.seq (.reg [⟨(some 14), .mv (.t 4), none, 196608, 0, []⟩,
   ⟨(some 15), .call 161 [(.t 14)] false, none, 196864, 1, []⟩,
   ⟨(some 6), .alloc [(.int .i64 0), (.int .i64 0), (.nil true 1)], none, 197120, 2, []⟩,
   ⟨none, .store 3 (.t 6) (.t 15), none, 197376, 3, []⟩])
 (.seq (.seq (.reg [⟨(some 7), .mv (.k (.int .i64 0)), none, 262144, 0, []⟩])
 (.block 0 (.loop [2, 4, 5, 6, 7] [0, 1, 2, 3, 4, 5, 256, 259, 131584, 131585, 131586, 131587, 196864, 196865, 196866, 196867, 197120, 197123, 197377, 197378, 197379, 983297, 983298, 983299]
  (.seq (.seq (.reg [⟨(some 16), .mv (.t 7), none, 327680, 0, []⟩,
    ⟨(some 17), .mv (.t 4), none, 327936, 1, []⟩,
    ⟨(some 18), .bin .lss (.t 16) (.t 17), none, 328192, 2, []⟩])
  (.cond (.t 18)
   (.skip)
   (.exit 0)))
  (.seq (.block 1 (.seq (.reg [⟨(some 21), .mv (.t 7), none, 458752, 0, []⟩,
    ⟨(some 8), .mv (.t 21), none, 459008, 1, []⟩])
  (.seq (.block 2 (.loop [2, 4, 5, 6, 7, 8] [0, 1, 2, 3, 4, 5, 256, 259, 131584, 131585, 131586, 131587, 196864, 196865, 196866, 196867, 197120, 197123, 197377, 197378, 197379, 721153, 721154, 721155, 983297, 983298, 983299]
   (.seq (.seq (.reg [⟨(some 22), .mv (.t 8), none, 524288, 0, []⟩,
     ⟨(some 23), .mv (.t 4), none, 524544, 1, []⟩,
     ⟨(some 24), .bin .lss (.t 22) (.t 23), none, 524800, 2, []⟩,
     ⟨(some 25), .mv (.t 24), none, 525056, 3, []⟩,
     ⟨(some 26), .mv (.t 5), (some (some 25, true)), 525312, 4, []⟩,
     ⟨(some 27), .mv (.t 8), (some (some 25, true)), 525568, 5, []⟩,
     ⟨(some 28), .mv (.t 4), (some (some 25, true)), 525824, 6, []⟩,
     ⟨(some 29), .bin .mul (.t 27) (.t 28), (some (some 25, true)), 526080, 7, []⟩,
     ⟨(some 30), .mv (.t 7), (some (some 25, true)), 526336, 8, []⟩,
     ⟨(some 31), .bin .add (.t 29) (.t 30), (some (some 25, true)), 526592, 9, []⟩,
     ⟨(some 32), .iaddr 1 (.t 26) (.t 31), (some (some 25, true)), 526848, 10, []⟩,
     ⟨(some 33), .load 1 false (.t 32), (some (some 25, true)), 527104, 11, []⟩,
     ⟨(some 34), .bin .eql (.t 33) (.k (.int .i64 0)), (some (some 25, true)), 527360, 12, []⟩,
     ⟨(some 35), .pick (.t 25) (.t 34) (.k (.bool false)), none, 527616, 13, []⟩])
   (.cond (.t 35)
    (.skip)
    (.exit 2)))
   (.block 3 (.reg [⟨(some 36), .mv (.t 8), none, 589824, 0, []⟩,
     ⟨(some 37), .bin .add (.t 36) (.k (.int .i64 1)), none, 590080, 1, []⟩,
     ⟨(some 8), .mv (.t 37), none, 590336, 2, []⟩])))))
  (.seq (.seq (.reg [⟨(some 38), .mv (.t 8), none, 655360, 0, []⟩,
    ⟨(some 39), .mv (.t 4), none, 655616, 1, []⟩,
    ⟨(some 40), .bin .eql (.t 38) (.t 39), none, 655872, 2, []⟩])
  (.cond (.t 40)
   (.seq (.reg [⟨(some 41), .build [(.int .i64 0), (.int .i64 0), (.nil true 1)] [], none, 720896, 0, []⟩,
     ⟨none, .store 3 (.t 2) (.t 41), none, 721152, 1, []⟩,
     ⟨(some 3), .mv (.k (.bool false)), none, 721408, 2, []⟩])
   (.ret))
   (.skip)))
  (.seq (.reg [⟨(some 42), .mv (.t 5), none, 786432, 0, []⟩,
    ⟨(some 43), .mv (.t 4), none, 786688, 1, []⟩,
    ⟨(some 44), .mv (.t 7), none, 786944, 2, []⟩,
    ⟨(some 45), .mv (.t 8), none, 787200, 3, []⟩,
    ⟨(some 46), .call 169 [(.t 42), (.t 43), (.t 44), (.t 45)] true, none, 787456, 4, []⟩])
  (.seq (.reg [⟨(some 47), .faddr 2 (.t 6), none, 851968, 0, []⟩,
    ⟨(some 48), .load 1 false (.t 47), none, 852224, 1, []⟩,
    ⟨(some 49), .mv (.t 4), none, 852480, 2, []⟩,
    ⟨(some 50), .mv (.t 7), none, 852736, 3, []⟩,
    ⟨(some 51), .mv (.t 8), none, 852992, 4, []⟩,
    ⟨(some 52), .call 169 [(.t 48), (.t 49), (.t 50), (.t 51)] true, none, 853248, 5, []⟩])
  (.reg [⟨(some 53), .mv (.t 5), none, 917504, 0, []⟩,
    ⟨(some 54), .faddr 2 (.t 6), none, 917760, 1, []⟩,
    ⟨(some 55), .load 1 false (.t 54), none, 918016, 2, []⟩,
    ⟨(some 56), .mv (.t 4), none, 918272, 3, []⟩,
    ⟨(some 57), .mv (.t 7), none, 918528, 4, []⟩,
    ⟨(some 58), .call 170 [(.t 53), (.t 55), (.t 56), (.t 57)] true, none, 918784, 5, []⟩])))))))
  (.reg [⟨(some 19), .mv (.t 7), none, 393216, 0, []⟩,
    ⟨(some 20), .bin .add (.t 19) (.k (.int .i64 1)), none, 393472, 1, []⟩,
    ⟨(some 7), .mv (.t 20), none, 393728, 2, []⟩]))))))
 (.seq (.reg [⟨(some 59), .load 3 true (.t 6), none, 983040, 0, []⟩,
   ⟨none, .store 3 (.t 2) (.t 59), none, 983296, 1, []⟩,
   ⟨(some 3), .mv (.k (.bool true)), none, 983552, 2, []⟩])
 (.ret))))))⟩
/-- loop.example/g00849/spec.l03Rows -/
def F150 : F := ⟨2, 41, [.cell 4 3 true],
 .seq (.reg [⟨(some 2), .box (.t 0), none, 0, 0, []⟩,
   ⟨(some 4), .alloc [(.int .i64 0), (.int .i64 0), (.nil true 1)], none, 256, 1, []⟩])
 (.seq (.reg [⟨(some 7), .mv (.t 1), none, 65536, 0, []⟩,
   ⟨(some 8), .len false (.t 7), none, 65792, 1, []⟩,
   ⟨(some 9), .faddr 1 (.t 2), none, 66048, 2, []⟩,
   ⟨(some 10), .load 1 false (.t 9), none, 66304, 3, []⟩,
   ⟨(some 11), .build [(.int .i64 0), (.int .i64 0), (.nil true 1)] [(0, 1, (.t 8)), (1, 1, (.t 10))], none, 66560, 4, []⟩,
   ⟨(some 5), .alloc [(.int .i64 0), (.int .i64 0), (.nil true 1)], none, 66816, 5, []⟩,
   ⟨none, .store 3 (.t 5) (.t 11), none, 67072, 6, []⟩])
 (.seq (.seq (.reg [⟨(some 6), .mv (.k (.int .i64 0)), none, 131072, 0, []⟩])
 (.block 0 (.loop [1, 2, 4, 5, 6] [0, 1, 2, 3, 4, 5, 256, 259, 66816, 66819, 67073, 67074, 67075, 393473, 393474, 393475]
  (.seq (.seq (.reg [⟨(some 12), .mv (.t 6), none, 196608, 0, []⟩,
    ⟨(some 13), .mv (.t 1), none, 196864, 1, []⟩,
    ⟨(some 14), .len false (.t 13), none, 197120, 2, []⟩,
    ⟨(some 15), .bin .lss (.t 12) (.t 14), none, 197376, 3, []⟩])
  (.cond (.t 15)
   (.skip)
   (.exit 0)))
  (.seq (.block 1 (.reg [⟨(some 18), .faddr 2 (.t 5), none, 327680, 0, []⟩,
    ⟨(some 19), .load 1 false (.t 18), none, 327936, 1, []⟩,
    ⟨(some 20), .faddr 2 (.t 2), none, 328192, 2, []⟩,
    ⟨(some 21), .load 1 false (.t 20), none, 328448, 3, []⟩,
    ⟨(some 22), .mv (.t 1), none, 328704, 4, []⟩,
    ⟨(some 23), .mv (.t 6), none, 328960, 5, []⟩,
    ⟨(some 24), .iaddr 1 (.t 22) (.t 23), none, 329216, 6, []⟩,
    ⟨(some 25), .load 1 false (.t 24), none, 329472, 7, []⟩,
    ⟨(some 26), .faddr 1 (.t 2), none, 329728, 8, []⟩,
    ⟨(some 27), .load 1 false (.t 26), none, 329984, 9, []⟩,
    ⟨(some 28), .bin .mul (.t 25) (.t 27), none, 330240, 10, []⟩,
    ⟨(some 29), .mv (.t 1), none, 330496, 11, []⟩,
    ⟨(some 30), .mv (.t 6), none, 330752, 12, []⟩,
    ⟨(some 31), .iaddr 1 (.t 29) (.t 30), none, 331008, 13, []⟩,
    ⟨(some 32), .load 1 false (.t 31), none, 331264, 14, []⟩,
    ⟨(some 33), .bin .add (.t 32) (.k (.int .i64 1)), none, 331520, 15, []⟩,
    ⟨(some 34), .faddr 1 (.t 2), none, 331776, 16, []⟩,
    ⟨(some 35), .load 1 false (.t 34), none, 332032, 17, []⟩,
    ⟨(some 36), .bin .mul (.t 33) (.t 35), none, 332288, 18, []⟩,
    ⟨(some 37), .cut 1 (.t 21) (some (.t 28)) (some (.t 36)), none, 332544, 19, []⟩,
    ⟨(some 38), .app true 1 8 (.t 19) (.t 37), none, 332800, 20, []⟩,
    ⟨(some 39), .faddr 2 (.t 5), none, 333056, 21, []⟩,
    ⟨none, .store 1 (.t 39) (.t 38), none, 333312, 22, []⟩]))
  (.reg [⟨(some 16), .mv (.t 6), none, 262144, 0, []⟩,
    ⟨(some 17), .bin .add (.t 16) (.k (.int .i64 1)), none, 262400, 1, []⟩,
    ⟨(some 6), .mv (.t 17), none, 262656, 2, []⟩]))))))
 (.seq (.reg [⟨(some 40), .load 3 true (.t 5), none, 393216, 0, []⟩,
   ⟨none, .store 3 (.t 4) (.t 40), none, 393472, 1, []⟩])
 (.ret))))⟩
/-- slices.Clone[[]int64,int64] -/
def F153 : F := ⟨1, 8, [.t 2],
 .seq (.reg [⟨(some 2), .nil0 true 1, none, 0, 0, []⟩])
 (.seq (.seq (.reg [⟨(some 3), .mv (.t 0), none, 65536, 0, []⟩])
 (.ifnil false 4 (.t 3)
  (.seq (.reg [⟨(some 2), .nil0 true 1, none, 131072, 0, []⟩])
  (.ret))
  (.skip)))
 (.seq (.reg [⟨(some 5), .bslice true 1 [(.int .i64 0)] 0 [], none, 196608, 0, []⟩,
   ⟨(some 6), .mv (.t 0), none, 196864, 1, []⟩,
   ⟨(some 7), .app true 1 8 (.t 5) (.t 6), none, 197120, 2, []⟩,
   ⟨(some 2), .mv (.t 7), none, 197376, 3, []⟩])
 (.ret)))⟩
/-- loop.example/g00849/impl.unit -/
def F154 : F := ⟨1, 23, [.cell 2 3 true],
 .seq (.reg [⟨(some 2), .alloc [(.int .i64 0), (.int .i64 0), (.nil true 1)], none, 0, 0, []⟩])
 (.seq (.reg [⟨(some 5), .mv (.t 0), none, 65536, 0, []⟩,
   ⟨(some 6), .mv (.t 0), none, 65792, 1, []⟩,
   ⟨(some 7), .mv (.t 0), none, 66048, 2, []⟩,
   ⟨(some 8), .mv (.t 0), none, 66304, 3, []⟩,
   ⟨(some 9), .bin .mul (.t 7) (.t 8), none, 66560, 4, []⟩,
   ⟨(some 10), .mksl true 1 8 [(.int .i64 0)] (.t 9) (.t 9), none, 66816, 5, []⟩,
   ⟨(some 11), .build [(.int .i64 0), (.int .i64 0), (.nil true 1)] [(0, 1, (.t 5)), (1, 1, (.t 6)), (2, 1, (.t 10))], none, 67072, 6, []⟩,
   ⟨(some 3), .alloc [(.int .i64 0), (.int .i64 0), (.nil true 1)], none, 67328, 7, []⟩,
   ⟨none, .store 3 (.t 3) (.t 11), none, 67584, 8, []⟩])
 (.seq (.seq (.reg [⟨(some 12), .mv (.t 0), none, 131072, 0, []⟩,
   ⟨(some 13), .mv (.k (.int .i64 0)), none, 131328, 1, []⟩])
 (.block 0 (.loop [2, 3, 12, 13] [0, 3, 66816, 67328, 67331, 67585, 67586, 67587, 459009, 459010, 459011]
  (.seq (.reg [⟨(some 14), .bin .lss (.t 13) (.t 12), none, 196608, 0, []⟩])
  (.seq (.cond (.t 14)
   (.skip)
   (.exit 0))
  (.seq (.block 1 (.seq (.reg [⟨(some 15), .mv (.t 13), none, 262144, 0, []⟩,
    ⟨(some 4), .mv (.t 15), none, 262400, 1, []⟩])
  (.reg [⟨(some 16), .load 3 true (.t 3), none, 327680, 0, []⟩,
    ⟨(some 17), .mv (.t 4), none, 327936, 1, []⟩,
    ⟨(some 18), .call 155 [(.t 16), (.t 17)] false, none, 328192, 2, []⟩,
    ⟨(some 19), .mv (.t 4), none, 328448, 3, []⟩,
    ⟨(some 20), .iaddr 1 (.t 18) (.t 19), none, 328704, 4, []⟩,
    ⟨none, .store 1 (.t 20) (.k (.int .i64 1)), none, 328960, 5, []⟩])))
  (.reg [⟨(some 21), .bin .add (.t 13) (.k (.int .i64 1)), none, 393216, 0, []⟩,
    ⟨(some 13), .mv (.t 21), none, 393472, 1, []⟩])))))))
 (.seq (.reg [⟨(some 22), .load 3 true (.t 3), none, 458752, 0, []⟩,
   ⟨none, .store 3 (.t 2) (.t 22), none, 459008, 1, []⟩])
 (.ret))))⟩
/-- (loop.example/g00849/impl.Matrix).row -/
def F155 : F := ⟨2, 17, [.t 4],
 .seq (.reg [⟨(some 2), .box (.t 0), none, 0, 0, []⟩,
   ⟨(some 4), .nil0 true 1, none, 256, 1, []⟩])
 (.seq (.reg [⟨(some 5), .faddr 2 (.t 2), none, 65536, 0, []⟩,
   ⟨(some 6), .load 1 false (.t 5), none, 65792, 1, []⟩,
   ⟨(some 7), .mv (.t 1), none, 66048, 2, []⟩,
   ⟨(some 8), .faddr 1 (.t 2), none, 66304, 3, []⟩,
   ⟨(some 9), .load 1 false (.t 8), none, 66560, 4, []⟩,
   ⟨(some 10), .bin .mul (.t 7) (.t 9), none, 66816, 5, []⟩,
   ⟨(some 11), .mv (.t 1), none, 67072, 6, []⟩,
   ⟨(some 12), .bin .add (.t 11) (.k (.int .i64 1)), none, 67328, 7, []⟩,
   ⟨(some 13), .faddr 1 (.t 2), none, 67584, 8, []⟩,
   ⟨(some 14), .load 1 false (.t 13), none, 67840, 9, []⟩,
   ⟨(some 15), .bin .mul (.t 12) (.t 14), none, 68096, 10, []⟩,
   ⟨(some 16), .cut 1 (.t 6) (some (.t 10)) (some (.t 15)), none, 68352, 11, []⟩,
   ⟨(some 4), .mv (.t 16), none, 68608, 12, []⟩])
 (.ret))⟩
/-- loop.example/g00849/impl.addTo -/
def F156 : F := ⟨3, 25, [],
 .seq (.reg [⟨(some 8), .mv (.t 1), none, 0, 0, []⟩,
   ⟨(some 9), .len false (.t 8), none, 256, 1, []⟩,
   ⟨(some 10), .mv (.k (.int .i64 0)), none, 512, 2, []⟩])
 (.block 0 (.loop [0, 2, 8, 9, 10] []
  (.seq (.reg [⟨(some 11), .bin .lss (.t 10) (.t 9), none, 65536, 0, []⟩])
  (.seq (.cond (.t 11)
   (.skip)
   (.exit 0))
  (.seq (.block 1 (.seq (.reg [⟨(some 12), .mv (.t 10), none, 131072, 0, []⟩,
    ⟨(some 13), .iaddr 1 (.t 8) (.t 10), none, 131328, 1, []⟩,
    ⟨(some 14), .load 1 false (.t 13), none, 131584, 2, []⟩,
    ⟨(some 6), .mv (.t 12), none, 131840, 3, []⟩,
    ⟨(some 7), .mv (.t 14), none, 132096, 4, []⟩])
  (.reg [⟨(some 15), .mv (.t 0), none, 196608, 0, []⟩,
    ⟨(some 16), .mv (.t 6), none, 196864, 1, []⟩,
    ⟨(some 17), .iaddr 1 (.t 15) (.t 16), none, 197120, 2, []⟩,
    ⟨(some 18), .load 1 false (.t 17), none, 197376, 3, []⟩,
    ⟨(some 19), .mv (.t 2), none, 197632, 4, []⟩,
    ⟨(some 20), .mv (.t 7), none, 197888, 5, []⟩,
    ⟨(some 21), .call 158 [(.t 19), (.t 20)] true, none, 198144, 6, []⟩,
    ⟨(some 22), .bin .xor (.t 18) (.t 21), none, 198400, 7, []⟩,
    ⟨(some 23), .iaddr 1 (.t 15) (.t 16), none, 198656, 8, []⟩,
    ⟨none, .store 1 (.t 23) (.t 22), none, 198912, 9, []⟩])))
  (.reg [⟨(some 24), .bin .add (.t 10) (.k (.int .i64 1)), none, 262144, 0, []⟩,
    ⟨(some 10), .mv (.t 24), none, 262400, 1, []⟩]))))))⟩
/-- loop.example/g00849/impl.inverse -/
def F157 : F := ⟨1, 5, [.t 2],
 .seq (.reg [⟨(some 2), .mv (.k (.int .i64 0)), none, 0, 0, []⟩])
 (.seq (.reg [⟨(some 3), .mv (.t 0), none, 65536, 0, []⟩,
   ⟨(some 4), .call 173 [(.t 3), (.k (.int .i64 254))] true, none, 65792, 1, []⟩,
   ⟨(some 2), .mv (.t 4), none, 66048, 2, []⟩])
 (.ret))⟩
/-- loop.example/g00849/impl.times -/
def F158 : F := ⟨2, 19, [.t 4],
 .seq (.reg [⟨(some 4), .mv (.k (.int .i64 0)), none, 0, 0, []⟩])
 (.seq (.reg [⟨(some 5), .mv (.k (.int .i64 0)), none, 65536, 0, []⟩])
 (.seq (.block 0 (.loop [0, 1, 5] []
  (.seq (.seq (.reg [⟨(some 6), .mv (.t 1), none, 131072, 0, []⟩,
    ⟨(some 7), .bin .gtr (.t 6) (.k (.int .i64 0)), none, 131328, 1, []⟩])
  (.cond (.t 7)
   (.skip)
   (.exit 0)))
  (.seq (.block 1 (.seq (.seq (.reg [⟨(some 10), .mv (.t 1), none, 262144, 0, []⟩,
    ⟨(some 11), .bin .rem (.t 10) (.k (.int .i64 2)), none, 262400, 1, []⟩,
    ⟨(some 12), .bin .eql (.t 11) (.k (.int .i64 1)), none, 262656, 2, []⟩])
  (.cond (.t 12)
   (.reg [⟨(some 13), .mv (.t 5), none, 327680, 0, []⟩,
     ⟨(some 14), .mv (.t 0), none, 327936, 1, []⟩,
     ⟨(some 15), .bin .xor (.t 13) (.t 14), none, 328192, 2, []⟩,
     ⟨(some 5), .mv (.t 15), none, 328448, 3, []⟩])
   (.skip)))
  (.reg [⟨(some 16), .mv (.t 0), none, 393216, 0, []⟩,
    ⟨(some 17), .call 174 [(.t 16)] true, none, 393472, 1, []⟩,
    ⟨(some 0), .mv (.t 17), none, 393728, 2, []⟩])))
  (.reg [⟨(some 8), .mv (.t 1), none, 196608, 0, []⟩,
    ⟨(some 9), .bin .quo (.t 8) (.k (.int .i64 2)), none, 196864, 1, []⟩,
    ⟨(some 1), .mv (.t 9), none, 197120, 2, []⟩])))))
 (.seq (.reg [⟨(some 18), .mv (.t 5), none, 458752, 0, []⟩,
   ⟨(some 4), .mv (.t 18), none, 459008, 1, []⟩])
 (.ret))))⟩
/-- loop.example/g00849/impl.scaled -/
def F159 : F := ⟨2, 28, [.t 4],
 .seq (.reg [⟨(some 4), .mv (.k (.str ByteArray.empty)), none, 0, 0, []⟩])
 (.seq (.reg [⟨(some 7), .mv (.t 1), none, 65536, 0, []⟩,
   ⟨(some 8), .len true (.t 7), none, 65792, 1, []⟩,
   ⟨(some 9), .mksl true 1 1 [(.int .u8 0)] (.t 8) (.t 8), none, 66048, 2, []⟩,
   ⟨(some 5), .mv (.t 9), none, 66304, 3, []⟩])
 (.seq (.seq (.reg [⟨(some 10), .mv (.t 5), none, 131072, 0, []⟩,
   ⟨(some 11), .len false (.t 10), none, 131328, 1, []⟩,
   ⟨(some 12), .mv (.k (.int .i64 0)), none, 131584, 2, []⟩])
 (.block 0 (.loop [0, 1, 5, 11, 12] [66048]
  (.seq (.reg [⟨(some 13), .bin .lss (.t 12) (.t 11), none, 196608, 0, []⟩])
  (.seq (.cond (.t 13)
   (.skip)
   (.exit 0))
  (.seq (.block 1 (.seq (.reg [⟨(some 14), .mv (.t 12), none, 262144, 0, []⟩,
    ⟨(some 6), .mv (.t 14), none, 262400, 1, []⟩])
  (.reg [⟨(some 15), .mv (.t 5), none, 327680, 0, []⟩,
    ⟨(some 16), .mv (.t 6), none, 327936, 1, []⟩,
    ⟨(some 17), .mv (.t 0), none, 328192, 2, []⟩,
    ⟨(some 18), .mv (.t 1), none, 328448, 3, []⟩,
    ⟨(some 19), .mv (.t 6), none, 328704, 4, []⟩,
    ⟨(some 20), .idx (.t 18) (.t 19), none, 328960, 5, []⟩,
    ⟨(some 21), .conv .i64 (.t 20), none, 329216, 6, []⟩,
    ⟨(some 22), .call 158 [(.t 17), (.t 21)] true, none, 329472, 7, []⟩,
    ⟨(some 23), .conv .u8 (.t 22), none, 329728, 8, []⟩,
    ⟨(some 24), .iaddr 1 (.t 15) (.t 16), none, 329984, 9, []⟩,
    ⟨none, .store 1 (.t 24) (.t 23), none, 330240, 10, []⟩])))
  (.reg [⟨(some 25), .bin .add (.t 12) (.k (.int .i64 1)), none, 393216, 0, []⟩,
    ⟨(some 12), .mv (.t 25), none, 393472, 1, []⟩])))))))
 (.seq (.reg [⟨(some 26), .mv (.t 5), none, 458752, 0, []⟩,
   ⟨(some 27), .b2s (.t 26), none, 459008, 1, []⟩,
   ⟨(some 4), .mv (.t 27), none, 459264, 2, []⟩])
 (.ret))))⟩
/-- loop.example/g00849/spec.l02Scale -/
def F160 : F := ⟨2, 26, [.t 4],
 .seq (.reg [⟨(some 4), .mv (.k (.str ByteArray.empty)), none, 0, 0, []⟩])
 (.seq (.reg [⟨(some 7), .bslice true 1 [(.int .u8 0)] 0 [], none, 65536, 0, []⟩,
   ⟨(some 5), .mv (.t 7), none, 65792, 1, []⟩])
 (.seq (.seq (.reg [⟨(some 6), .mv (.k (.int .i64 0)), none, 131072, 0, []⟩])
 (.block 0 (.loop [0, 1, 5, 6] [65536]
  (.seq (.seq (.reg [⟨(some 8), .mv (.t 6), none, 196608, 0, []⟩,
    ⟨(some 9), .mv (.t 1), none, 196864, 1, []⟩,
    ⟨(some 10), .len true (.t 9), none, 197120, 2, []⟩,
    ⟨(some 11), .bin .lss (.t 8) (.t 10), none, 197376, 3, []⟩])
  (.cond (.t 11)
   (.skip)
   (.exit 0)))
  (.seq (.block 1 (.reg [⟨(some 14), .mv (.t 5), none, 327680, 0, []⟩,
    ⟨(some 15), .mv (.t 0), none, 327936, 1, []⟩,
    ⟨(some 16), .mv (.t 1), none, 328192, 2, []⟩,
    ⟨(some 17), .mv (.t 6), none, 328448, 3, []⟩,
    ⟨(some 18), .idx (.t 16) (.t 17), none, 328704, 4, []⟩,
    ⟨(some 19), .conv .i64 (.t 18), none, 328960, 5, []⟩,
    ⟨(some 20), .call 162 [(.t 15), (.t 19)] true, none, 329216, 6, []⟩,
    ⟨(some 21), .conv .u8 (.t 20), none, 329472, 7, []⟩,
    ⟨(some 22), .bslice true 1 [(.int .u8 0)] 1 [(0, (.t 21))], none, 329728, 8, []⟩,
    ⟨(some 23), .app true 1 1 (.t 14) (.t 22), none, 329984, 9, []⟩,
    ⟨(some 5), .mv (.t 23), none, 330240, 10, []⟩]))
  (.reg [⟨(some 12), .mv (.t 6), none, 262144, 0, []⟩,
    ⟨(some 13), .bin .add (.t 12) (.k (.int .i64 1)), none, 262400, 1, []⟩,
    ⟨(some 6), .mv (.t 13), none, 262656, 2, []⟩]))))))
 (.seq (.reg [⟨(some 24), .mv (.t 5), none, 393216, 0, []⟩,
   ⟨(some 25), .b2s (.t 24), none, 393472, 1, []⟩,
   ⟨(some 4), .mv (.t 25), none, 393728, 2, []⟩])
 (.ret))))⟩
/-- loop.example/g00849/spec.l03Unit -/
def F161 : F := ⟨1, 31, [.cell 2 3 true],
 .seq (.reg [⟨(some 2), .alloc [(.int .i64 0), (.int .i64 0), (.nil true 1)], none, 0, 0, []⟩])
 (.seq (.reg [⟨(some 5), .mv (.t 0), none, 65536, 0, []⟩,
   ⟨(some 6), .mv (.t 0), none, 65792, 1, []⟩,
   ⟨(some 7), .build [(.int .i64 0), (.int .i64 0), (.nil true 1)] [(0, 1, (.t 5)), (1, 1, (.t 6))], none, 66048, 2, []⟩,
   ⟨(some 3), .alloc [(.int .i64 0), (.int .i64 0), (.nil true 1)], none, 66304, 3, []⟩,
   ⟨none, .store 3 (.t 3) (.t 7), none, 66560, 4, []⟩])
 (.seq (.seq (.reg [⟨(some 4), .mv (.k (.int .i64 0)), none, 131072, 0, []⟩])
 (.block 0 (.loop [0, 2, 3, 4] [0, 3, 66304, 66307, 66561, 66562, 66563, 524545, 524546, 524547]
  (.seq (.seq (.reg [⟨(some 8), .mv (.t 4), none, 196608, 0, []⟩,
    ⟨(some 9), .mv (.t 0), none, 196864, 1, []⟩,
    ⟨(some 10), .mv (.t 0), none, 197120, 2, []⟩,
    ⟨(some 11), .bin .mul (.t 9) (.t 10), none, 197376, 3, []⟩,
    ⟨(some 12), .bin .lss (.t 8) (.t 11), none, 197632, 4, []⟩])
  (.cond (.t 12)
   (.skip)
   (.exit 0)))
  (.seq (.block 1 (.seq (.reg [⟨(some 15), .mv (.t 4), none, 327680, 0, []⟩,
    ⟨(some 16), .mv (.t 0), none, 327936, 1, []⟩,
    ⟨(some 17), .bin .add (.t 16) (.k (.int .i64 1)), none, 328192, 2, []⟩,
    ⟨(some 18), .bin .rem (.t 15) (.t 17), none, 328448, 3, []⟩,
    ⟨(some 19), .bin .eql (.t 18) (.k (.int .i64 0)), none, 328704, 4, []⟩])
  (.cond (.t 19)
   (.reg [⟨(some 20), .faddr 2 (.t 3), none, 393216, 0, []⟩,
     ⟨(some 21), .load 1 false (.t 20), none, 393472, 1, []⟩,
     ⟨(some 22), .bslice true 1 [(.int .i64 0)] 1 [(0, (.k (.int .i64 1)))], none, 393728, 2, []⟩,
     ⟨(some 23), .app true 1 8 (.t 21) (.t 22), none, 393984, 3, []⟩,
     ⟨(some 24), .faddr 2 (.t 3), none, 394240, 4, []⟩,
     ⟨none, .store 1 (.t 24) (.t 23), none, 394496, 5, []⟩])
   (.reg [⟨(some 25), .faddr 2 (.t 3), none, 458752, 0, []⟩,
     ⟨(some 26), .load 1 false (.t 25), none, 459008, 1, []⟩,
     ⟨(some 27), .bslice true 1 [(.int .i64 0)] 1 [(0, (.k (.int .i64 0)))], none, 459264, 2, []⟩,
     ⟨(some 28), .app true 1 8 (.t 26) (.t 27), none, 459520, 3, []⟩,
     ⟨(some 29), .faddr 2 (.t 3), none, 459776, 4, []⟩,
     ⟨none, .store 1 (.t 29) (.t 28), none, 460032, 5, []⟩]))))
  (.reg [⟨(some 13), .mv (.t 4), none, 262144, 0, []⟩,
    ⟨(some 14), .bin .add (.t 13) (.k (.int .i64 1)), none, 262400, 1, []⟩,
    ⟨(some 4), .mv (.t 14), none, 262656, 2, []⟩]))))))
 (.seq (.reg [⟨(some 30), .load 3 true (.t 3), none, 524288, 0, []⟩,
   ⟨none, .store 3 (.t 2) (.t 30), none, 524544, 1, []⟩])
 (.ret))))⟩
/-- loop.example/g00849/spec.l02Times -/
def F162 : F := ⟨2, 26, [.t 4],
 .seq (.reg [⟨(some 4), .mv (.k (.int .i64 0)), none, 0, 0, []⟩])
 (.seq (.reg [⟨(some 5), .mv (.k (.int .i64 0)), none, 65536, 0, []⟩])
 (.seq (.seq (.reg [⟨(some 6), .mv (.k (.int .i64 0)), none, 131072, 0, []⟩])
 (.block 0 (.loop [0, 1, 5, 6] []
  (.seq (.seq (.reg [⟨(some 7), .mv (.t 6), none, 196608, 0, []⟩,
    ⟨(some 8), .bin .lss (.t 7) (.k (.int .i64 8)), none, 196864, 1, []⟩])
  (.cond (.t 8)
   (.skip)
   (.exit 0)))
  (.seq (.block 1 (.seq (.seq (.reg [⟨(some 11), .mv (.t 1), none, 327680, 0, []⟩,
    ⟨(some 12), .bin .and (.t 11) (.k (.int .i64 1)), none, 327936, 1, []⟩,
    ⟨(some 13), .bin .neq (.t 12) (.k (.int .i64 0)), none, 328192, 2, []⟩])
  (.cond (.t 13)
   (.reg [⟨(some 14), .mv (.t 5), none, 393216, 0, []⟩,
     ⟨(some 15), .mv (.t 0), none, 393472, 1, []⟩,
     ⟨(some 16), .bin .xor (.t 14) (.t 15), none, 393728, 2, []⟩,
     ⟨(some 5), .mv (.t 16), none, 393984, 3, []⟩])
   (.skip)))
  (.seq (.reg [⟨(some 17), .mv (.t 1), none, 458752, 0, []⟩,
    ⟨(some 18), .bin .shr (.t 17) (.k (.int .u64 1)), none, 459008, 1, []⟩,
    ⟨(some 1), .mv (.t 18), none, 459264, 2, []⟩])
  (.seq (.reg [⟨(some 19), .mv (.t 0), none, 524288, 0, []⟩,
    ⟨(some 20), .bin .shl (.t 19) (.k (.int .u64 1)), none, 524544, 1, []⟩,
    ⟨(some 0), .mv (.t 20), none, 524800, 2, []⟩])
  (.seq (.reg [⟨(some 21), .mv (.t 0), none, 589824, 0, []⟩,
    ⟨(some 22), .bin .gtr (.t 21) (.k (.int .i64 255)), none, 590080, 1, []⟩])
  (.cond (.t 22)
   (.reg [⟨(some 23), .mv (.t 0), none, 655360, 0, []⟩,
     ⟨(some 24), .bin .xor (.t 23) (.k (.int .i64 285)), none, 655616, 1, []⟩,
     ⟨(some 0), .mv (.t 24), none, 655872, 2, []⟩])
   (.skip)))))))
  (.reg [⟨(some 9), .mv (.t 6), none, 262144, 0, []⟩,
    ⟨(some 10), .bin .add (.t 9) (.k (.int .i64 1)), none, 262400, 1, []⟩,
    ⟨(some 6), .mv (.t 10), none, 262656, 2, []⟩]))))))
 (.seq (.reg [⟨(some 25), .mv (.t 5), none, 720896, 0, []⟩,
   ⟨(some 4), .mv (.t 25), none, 721152, 1, []⟩])
 (.ret))))⟩
/-- loop.example/g00849/spec.l02Inv -/
def F163 : F := ⟨1, 5, [.t 2],
 .seq (.reg [⟨(some 2), .mv (.k (.int .i64 0)), none, 0, 0, []⟩])
 (.seq (.reg [⟨(some 3), .mv (.t 0), none, 65536, 0, []⟩,
   ⟨(some 4), .call 175 [(.t 3), (.k (.int .i64 254))] true, none, 65792, 1, []⟩,
   ⟨(some 2), .mv (.t 4), none, 66048, 2, []⟩])
 (.ret))⟩
/-- loop.example/g00849/spec.l00Own -/
def F168 : F := ⟨1, 6, [.t 2],
 .seq (.reg [⟨(some 2), .nil0 true 1, none, 0, 0, []⟩])
 (.seq (.reg [⟨(some 3), .bslice true 1 [(.int .i64 0)] 0 [], none, 65536, 0, []⟩,
   ⟨(some 4), .mv (.t 0), none, 65792, 1, []⟩,
   ⟨(some 5), .app true 1 8 (.t 3) (.t 4), none, 66048, 2, []⟩,
   ⟨(some 2), .mv (.t 5), none, 66304, 3, []⟩])
 (.ret))⟩
/-- loop.example/g00849/spec.l03Swap -/
def F169 : F := ⟨4, 46, [],
 .seq (.reg [⟨(some 8), .mv (.k (.int .i64 0)), none, 0, 0, []⟩])
 (.block 0 (.loop [0, 1, 2, 3, 8] []
  (.seq (.seq (.reg [⟨(some 10), .mv (.t 8), none, 65536, 0, []⟩,
    ⟨(some 11), .mv (.t 1), none, 65792, 1, []⟩,
    ⟨(some 12), .bin .lss (.t 10) (.t 11), none, 66048, 2, []⟩])
  (.cond (.t 12)
   (.skip)
   (.exit 0)))
  (.seq (.block 1 (.seq (.reg [⟨(some 15), .mv (.t 0), none, 196608, 0, []⟩,
    ⟨(some 16), .mv (.t 2), none, 196864, 1, []⟩,
    ⟨(some 17), .mv (.t 1), none, 197120, 2, []⟩,
    ⟨(some 18), .bin .mul (.t 16) (.t 17), none, 197376, 3, []⟩,
    ⟨(some 19), .mv (.t 8), none, 197632, 4, []⟩,
    ⟨(some 20), .bin .add (.t 18) (.t 19), none, 197888, 5, []⟩,
    ⟨(some 21), .iaddr 1 (.t 15) (.t 20), none, 198144, 6, []⟩,
    ⟨(some 22), .load 1 false (.t 21), none, 198400, 7, []⟩,
    ⟨(some 9), .mv (.t 22), none, 198656, 8, []⟩])
  (.seq (.reg [⟨(some 23), .mv (.t 0), none, 262144, 0, []⟩,
    ⟨(some 24), .mv (.t 2), none, 262400, 1, []⟩,
    ⟨(some 25), .mv (.t 1), none, 262656, 2, []⟩,
    ⟨(some 26), .bin .mul (.t 24) (.t 25), none, 262912, 3, []⟩,
    ⟨(some 27), .mv (.t 8), none, 263168, 4, []⟩,
    ⟨(some 28), .bin .add (.t 26) (.t 27), none, 263424, 5, []⟩,
    ⟨(some 29), .mv (.t 0), none, 263680, 6, []⟩,
    ⟨(some 30), .mv (.t 3), none, 263936, 7, []⟩,
    ⟨(some 31), .mv (.t 1), none, 264192, 8, []⟩,
    ⟨(some 32), .bin .mul (.t 30) (.t 31), none, 264448, 9, []⟩,
    ⟨(some 33), .mv (.t 8), none, 264704, 10, []⟩,
    ⟨(some 34), .bin .add (.t 32) (.t 33), none, 264960, 11, []⟩,
    ⟨(some 35), .iaddr 1 (.t 29) (.t 34), none, 265216, 12, []⟩,
    ⟨(some 36), .load 1 false (.t 35), none, 265472, 13, []⟩,
    ⟨(some 37), .iaddr 1 (.t 23) (.t 28), none, 265728, 14, []⟩,
    ⟨none, .store 1 (.t 37) (.t 36), none, 265984, 15, []⟩])
  (.reg [⟨(some 38), .mv (.t 0), none, 327680, 0, []⟩,
    ⟨(some 39), .mv (.t 3), none, 327936, 1, []⟩,
    ⟨(some 40), .mv (.t 1), none, 328192, 2, []⟩,
    ⟨(some 41), .bin .mul (.t 39) (.t 40), none, 328448, 3, []⟩,
    ⟨(some 42), .mv (.t 8), none, 328704, 4, []⟩,
    ⟨(some 43), .bin .add (.t 41) (.t 42), none, 328960, 5, []⟩,
    ⟨(some 44), .mv (.t 9), none, 329216, 6, []⟩,
    ⟨(some 45), .iaddr 1 (.t 38) (.t 43), none, 329472, 7, []⟩,
    ⟨none, .store 1 (.t 45) (.t 44), none, 329728, 8, []⟩]))))
  (.reg [⟨(some 13), .mv (.t 8), none, 131072, 0, []⟩,
    ⟨(some 14), .bin .add (.t 13) (.k (.int .i64 1)), none, 131328, 1, []⟩,
    ⟨(some 8), .mv (.t 14), none, 131584, 2, []⟩])))))⟩
/-- loop.example/g00849/spec.l03Clear -/
def F170 : F := ⟨4, 126, [],
 .seq (.reg [⟨(some 13), .mv (.t 0), none, 0, 0, []⟩,
   ⟨(some 14), .mv (.t 3), none, 256, 1, []⟩,
   ⟨(some 15), .mv (.t 2), none, 512, 2, []⟩,
   ⟨(some 16), .bin .mul (.t 14) (.t 15), none, 768, 3, []⟩,
   ⟨(some 17), .mv (.t 3), none, 1024, 4, []⟩,
   ⟨(some 18), .bin .add (.t 16) (.t 17), none, 1280, 5, []⟩,
   ⟨(some 19), .iaddr 1 (.t 13) (.t 18), none, 1536, 6, []⟩,
   ⟨(some 20), .load 1 false (.t 19), none, 1792, 7, []⟩,
   ⟨(some 21), .call 163 [(.t 20)] true, none, 2048, 8, []⟩,
   ⟨(some 8), .mv (.t 21), none, 2304, 9, []⟩])
 (.seq (.seq (.reg [⟨(some 9), .mv (.k (.int .i64 0)), none, 65536, 0, []⟩])
 (.block 0 (.loop [0, 1, 2, 3, 8, 9] [922625, 988161]
  (.seq (.seq (.reg [⟨(some 22), .mv (.t 9), none, 131072, 0, []⟩,
    ⟨(some 23), .mv (.t 2), none, 131328, 1, []⟩,
    ⟨(some 24), .bin .lss (.t 22) (.t 23), none, 131584, 2, []⟩])
  (.cond (.t 24)
   (.skip)
   (.exit 0)))
  (.seq (.block 1 (.seq (.reg [⟨(some 27), .mv (.t 0), none, 262144, 0, []⟩,
    ⟨(some 28), .mv (.t 3), none, 262400, 1, []⟩,
    ⟨(some 29), .mv (.t 2), none, 262656, 2, []⟩,
    ⟨(some 30), .bin .mul (.t 28) (.t 29), none, 262912, 3, []⟩,
    ⟨(some 31), .mv (.t 9), none, 263168, 4, []⟩,
    ⟨(some 32), .bin .add (.t 30) (.t 31), none, 263424, 5, []⟩,
    ⟨(some 33), .mv (.t 8), none, 263680, 6, []⟩,
    ⟨(some 34), .mv (.t 0), none, 263936, 7, []⟩,
    ⟨(some 35), .mv (.t 3), none, 264192, 8, []⟩,
    ⟨(some 36), .mv (.t 2), none, 264448, 9, []⟩,
    ⟨(some 37), .bin .mul (.t 35) (.t 36), none, 264704, 10, []⟩,
    ⟨(some 38), .mv (.t 9), none, 264960, 11, []⟩,
    ⟨(some 39), .bin .add (.t 37) (.t 38), none, 265216, 12, []⟩,
    ⟨(some 40), .iaddr 1 (.t 34) (.t 39), none, 265472, 13, []⟩,
    ⟨(some 41), .load 1 false (.t 40), none, 265728, 14, []⟩,
    ⟨(some 42), .call 162 [(.t 33), (.t 41)] true, none, 265984, 15, []⟩,
    ⟨(some 43), .iaddr 1 (.t 27) (.t 32), none, 266240, 16, []⟩,
    ⟨none, .store 1 (.t 43) (.t 42), none, 266496, 17, []⟩])
  (.reg [⟨(some 44), .mv (.t 1), none, 327680, 0, []⟩,
    ⟨(some 45), .mv (.t 3), none, 327936, 1, []⟩,
    ⟨(some 46), .mv (.t 2), none, 328192, 2, []⟩,
    ⟨(some 47), .bin .mul (.t 45) (.t 46), none, 328448, 3, []⟩,
    ⟨(some 48), .mv (.t 9), none, 328704, 4, []⟩,
    ⟨(some 49), .bin .add (.t 47) (.t 48), none, 328960, 5, []⟩,
    ⟨(some 50), .mv (.t 8), none, 329216, 6, []⟩,
    ⟨(some 51), .mv (.t 1), none, 329472, 7, []⟩,
    ⟨(some 52), .mv (.t 3), none, 329728, 8, []⟩,
    ⟨(some 53), .mv (.t 2), none, 329984, 9, []⟩,
    ⟨(some 54), .bin .mul (.t 52) (.t 53), none, 330240, 10, []⟩,
    ⟨(some 55), .mv (.t 9), none, 330496, 11, []⟩,
    ⟨(some 56), .bin .add (.t 54) (.t 55), none, 330752, 12, []⟩,
    ⟨(some 57), .iaddr 1 (.t 51) (.t 56), none, 331008, 13, []⟩,
    ⟨(some 58), .load 1 false (.t 57), none, 331264, 14, []⟩,
    ⟨(some 59), .call 162 [(.t 50), (.t 58)] true, none, 331520, 15, []⟩,
    ⟨(some 60), .iaddr 1 (.t 44) (.t 49), none, 331776, 16, []⟩,
    ⟨none, .store 1 (.t 60) (.t 59), none, 332032, 17, []⟩])))
  (.reg [⟨(some 25), .mv (.t 9), none, 196608, 0, []⟩,
    ⟨(some 26), .bin .add (.t 25) (.k (.int .i64 1)), none, 196864, 1, []⟩,
    ⟨(some 9), .mv (.t 26), none, 197120, 2, []⟩]))))))
 (.seq (.reg [⟨(some 10), .mv (.k (.int .i64 0)), none, 393216, 0, []⟩])
 (.block 2 (.loop [0, 1, 2, 3, 10] [266497, 332033]
  (.seq (.seq (.reg [⟨(some 61), .mv (.t 10), none, 458752, 0, []⟩,
    ⟨(some 62), .mv (.t 2), none, 459008, 1, []⟩,
    ⟨(some 63), .bin .lss (.t 61) (.t 62), none, 459264, 2, []⟩])
  (.cond (.t 63)
   (.skip)
   (.exit 2)))
  (.seq (.block 3 (.seq (.reg [⟨(some 66), .mv (.t 0), none, 589824, 0, []⟩,
    ⟨(some 67), .mv (.t 10), none, 590080, 1, []⟩,
    ⟨(some 68), .mv (.t 2), none, 590336, 2, []⟩,
    ⟨(some 69), .bin .mul (.t 67) (.t 68), none, 590592, 3, []⟩,
    ⟨(some 70), .mv (.t 3), none, 590848, 4, []⟩,
    ⟨(some 71), .bin .add (.t 69) (.t 70), none, 591104, 5, []⟩,
    ⟨(some 72), .iaddr 1 (.t 66) (.t 71), none, 591360, 6, []⟩,
    ⟨(some 73), .load 1 false (.t 72), none, 591616, 7, []⟩,
    ⟨(some 11), .mv (.t 73), none, 591872, 8, []⟩])
  (.seq (.seq (.reg [⟨(some 74), .mv (.t 10), none, 655360, 0, []⟩,
    ⟨(some 75), .mv (.t 3), none, 655616, 1, []⟩,
    ⟨(some 76), .bin .eql (.t 74) (.t 75), none, 655872, 2, []⟩,
    ⟨(some 77), .mv (.t 76), none, 656128, 3, []⟩,
    ⟨(some 78), .mv (.t 11), (some (some 77, false)), 656384, 4, []⟩,
    ⟨(some 79), .bin .eql (.t 78) (.k (.int .i64 0)), (some (some 77, false)), 656640, 5, []⟩,
    ⟨(some 80), .pick (.t 77) (.k (.bool true)) (.t 79), none, 656896, 6, []⟩])
  (.cond (.t 80)
   (.exit 3)
   (.skip)))
  (.seq (.reg [⟨(some 12), .mv (.k (.int .i64 0)), none, 720896, 0, []⟩])
  (.block 4 (.loop [0, 1, 2, 3, 10, 11, 12] [266497, 332033]
   (.seq (.seq (.reg [⟨(some 81), .mv (.t 12), none, 786432, 0, []⟩,
     ⟨(some 82), .mv (.t 2), none, 786688, 1, []⟩,
     ⟨(some 83), .bin .lss (.t 81) (.t 82), none, 786944, 2, []⟩])
   (.cond (.t 83)
    (.skip)
    (.exit 4)))
   (.seq (.block 5 (.seq (.reg [⟨(some 86), .mv (.t 0), none, 917504, 0, []⟩,
     ⟨(some 87), .mv (.t 10), none, 917760, 1, []⟩,
     ⟨(some 88), .mv (.t 2), none, 918016, 2, []⟩,
     ⟨(some 89), .bin .mul (.t 87) (.t 88), none, 918272, 3, []⟩,
     ⟨(some 90), .mv (.t 12), none, 918528, 4, []⟩,
     ⟨(some 91), .bin .add (.t 89) (.t 90), none, 918784, 5, []⟩,
     ⟨(some 92), .iaddr 1 (.t 86) (.t 91), none, 919040, 6, []⟩,
     ⟨(some 93), .load 1 false (.t 92), none, 919296, 7, []⟩,
     ⟨(some 94), .mv (.t 11), none, 919552, 8, []⟩,
     ⟨(some 95), .mv (.t 0), none, 919808, 9, []⟩,
     ⟨(some 96), .mv (.t 3), none, 920064, 10, []⟩,
     ⟨(some 97), .mv (.t 2), none, 920320, 11, []⟩,
     ⟨(some 98), .bin .mul (.t 96) (.t 97), none, 920576, 12, []⟩,
     ⟨(some 99), .mv (.t 12), none, 920832, 13, []⟩,
     ⟨(some 100), .bin .add (.t 98) (.t 99), none, 921088, 14, []⟩,
     ⟨(some 101), .iaddr 1 (.t 95) (.t 100), none, 921344, 15, []⟩,
     ⟨(some 102), .load 1 false (.t 101), none, 921600, 16, []⟩,
     ⟨(some 103), .call 162 [(.t 94), (.t 102)] true, none, 921856, 17, []⟩,
     ⟨(some 104), .bin .xor (.t 93) (.t 103), none, 922112, 18, []⟩,
     ⟨(some 105), .iaddr 1 (.t 86) (.t 91), none, 922368, 19, []⟩,
     ⟨none, .store 1 (.t 105) (.t 104), none, 922624, 20, []⟩])
   (.reg [⟨(some 106), .mv (.t 1), none, 983040, 0, []⟩,
     ⟨(some 107), .mv (.t 10), none, 983296, 1, []⟩,
     ⟨(some 108), .mv (.t 2), none, 983552, 2, []⟩,
     ⟨(some 109), .bin .mul (.t 107) (.t 108), none, 983808, 3, []⟩,
     ⟨(some 110), .mv (.t 12), none, 984064, 4, []⟩,
     ⟨(some 111), .bin .add (.t 109) (.t 110), none, 984320, 5, []⟩,
     ⟨(some 112), .iaddr 1 (.t 106) (.t 111), none, 984576, 6, []⟩,
     ⟨(some 113), .load 1 false (.t 112), none, 984832, 7, []⟩,
     ⟨(some 114), .mv (.t 11), none, 985088, 8, []⟩,
     ⟨(some 115), .mv (.t 1), none, 985344, 9, []⟩,
     ⟨(some 116), .mv (.t 3), none, 985600, 10, []⟩,
     ⟨(some 117), .mv (.t 2), none, 985856, 11, []⟩,
     ⟨(some 118), .bin .mul (.t 116) (.t 117), none, 986112, 12, []⟩,
     ⟨(some 119), .mv (.t 12), none, 986368, 13, []⟩,
     ⟨(some 120), .bin .add (.t 118) (.t 119), none, 986624, 14, []⟩,
     ⟨(some 121), .iaddr 1 (.t 115) (.t 120), none, 986880, 15, []⟩,
     ⟨(some 122), .load 1 false (.t 121), none, 987136, 16, []⟩,
     ⟨(some 123), .call 162 [(.t 114), (.t 122)] true, none, 987392, 17, []⟩,
     ⟨(some 124), .bin .xor (.t 113) (.t 123), none, 987648, 18, []⟩,
     ⟨(some 125), .iaddr 1 (.t 106) (.t 111), none, 987904, 19, []⟩,
     ⟨none, .store 1 (.t 125) (.t 124), none, 988160, 20, []⟩])))
   (.reg [⟨(some 84), .mv (.t 12), none, 851968, 0, []⟩,
     ⟨(some 85), .bin .add (.t 84) (.k (.int .i64 1)), none, 852224, 1, []⟩,
     ⟨(some 12), .mv (.t 85), none, 852480, 2, []⟩])))))))))
  (.reg [⟨(some 64), .mv (.t 10), none, 524288, 0, []⟩,
    ⟨(some 65), .bin .add (.t 64) (.k (.int .i64 1)), none, 524544, 1, []⟩,
    ⟨(some 10), .mv (.t 65), none, 524800, 2, []⟩])))))))⟩
/-- loop.example/g00849/impl.power -/
def F173 : F := ⟨2, 20, [.t 4],
 .seq (.reg [⟨(some 4), .mv (.k (.int .i64 0)), none, 0, 0, []⟩])
 (.seq (.reg [⟨(some 5), .mv (.k (.int .i64 1)), none, 65536, 0, []⟩])
 (.seq (.block 0 (.loop [0, 1, 5] []
  (.seq (.seq (.reg [⟨(some 6), .mv (.t 1), none, 131072, 0, []⟩,
    ⟨(some 7), .bin .gtr (.t 6) (.k (.int .i64 0)), none, 131328, 1, []⟩])
  (.cond (.t 7)
   (.skip)
   (.exit 0)))
  (.seq (.block 1 (.seq (.seq (.reg [⟨(some 10), .mv (.t 1), none, 262144, 0, []⟩,
    ⟨(some 11), .bin .rem (.t 10) (.k (.int .i64 2)), none, 262400, 1, []⟩,
    ⟨(some 12), .bin .eql (.t 11) (.k (.int .i64 1)), none, 262656, 2, []⟩])
  (.cond (.t 12)
   (.reg [⟨(some 13), .mv (.t 5), none, 327680, 0, []⟩,
     ⟨(some 14), .mv (.t 0), none, 327936, 1, []⟩,
     ⟨(some 15), .call 158 [(.t 13), (.t 14)] true, none, 328192, 2, []⟩,
     ⟨(some 5), .mv (.t 15), none, 328448, 3, []⟩])
   (.skip)))
  (.reg [⟨(some 16), .mv (.t 0), none, 393216, 0, []⟩,
    ⟨(some 17), .mv (.t 0), none, 393472, 1, []⟩,
    ⟨(some 18), .call 158 [(.t 16), (.t 17)] true, none, 393728, 2, []⟩,
    ⟨(some 0), .mv (.t 18), none, 393984, 3, []⟩])))
  (.reg [⟨(some 8), .mv (.t 1), none, 196608, 0, []⟩,
    ⟨(some 9), .bin .quo (.t 8) (.k (.int .i64 2)), none, 196864, 1, []⟩,
    ⟨(some 1), .mv (.t 9), none, 197120, 2, []⟩])))))
 (.seq (.reg [⟨(some 19), .mv (.t 5), none, 458752, 0, []⟩,
   ⟨(some 4), .mv (.t 19), none, 459008, 1, []⟩])
 (.ret))))⟩
/-- loop.example/g00849/impl.double -/
def F174 : F := ⟨1, 10, [.t 2],
 .seq (.reg [⟨(some 2), .mv (.k (.int .i64 0)), none, 0, 0, []⟩])
 (.seq (.reg [⟨(some 3), .mv (.t 0), none, 65536, 0, []⟩,
   ⟨(some 4), .bin .mul (.t 3) (.k (.int .i64 2)), none, 65792, 1, []⟩,
   ⟨(some 0), .mv (.t 4), none, 66048, 2, []⟩])
 (.seq (.seq (.reg [⟨(some 5), .mv (.t 0), none, 131072, 0, []⟩,
   ⟨(some 6), .bin .gtr (.t 5) (.k (.int .i64 255)), none, 131328, 1, []⟩])
 (.cond (.t 6)
  (.reg [⟨(some 7), .mv (.t 0), none, 196608, 0, []⟩,
    ⟨(some 8), .bin .xor (.t 7) (.k (.int .i64 285)), none, 196864, 1, []⟩,
    ⟨(some 0), .mv (.t 8), none, 197120, 2, []⟩])
  (.skip)))
 (.seq (.reg [⟨(some 9), .mv (.t 0), none, 262144, 0, []⟩,
   ⟨(some 2), .mv (.t 9), none, 262400, 1, []⟩])
 (.ret))))⟩
/-- loop.example/g00849/spec.l02Pow -/
def F175 : F := ⟨2, 20, [.t 4],
 .seq (.reg [⟨(some 4), .mv (.k (.int .i64 0)), none, 0, 0, []⟩])
 (.seq (.reg [⟨(some 5), .mv (.k (.int .i64 1)), none, 65536, 0, []⟩])
 (.seq (.block 0 (.loop [0, 1, 5] []
  (.seq (.seq (.reg [⟨(some 6), .mv (.t 1), none, 131072, 0, []⟩,
    ⟨(some 7), .bin .gtr (.t 6) (.k (.int .i64 0)), none, 131328, 1, []⟩])
  (.cond (.t 7)
   (.skip)
   (.exit 0)))
  (.block 1 (.seq (.seq (.reg [⟨(some 8), .mv (.t 1), none, 196608, 0, []⟩,
    ⟨(some 9), .bin .rem (.t 8) (.k (.int .i64 2)), none, 196864, 1, []⟩,
    ⟨(some 10), .bin .eql (.t 9) (.k (.int .i64 1)), none, 197120, 2, []⟩])
  (.cond (.t 10)
   (.reg [⟨(some 11), .mv (.t 5), none, 262144, 0, []⟩,
     ⟨(some 12), .mv (.t 0), none, 262400, 1, []⟩,
     ⟨(some 13), .call 162 [(.t 11), (.t 12)] true, none, 262656, 2, []⟩,
     ⟨(some 5), .mv (.t 13), none, 262912, 3, []⟩])
   (.skip)))
  (.seq (.reg [⟨(some 14), .mv (.t 0), none, 327680, 0, []⟩,
    ⟨(some 15), .mv (.t 0), none, 327936, 1, []⟩,
    ⟨(some 16), .call 162 [(.t 14), (.t 15)] true, none, 328192, 2, []⟩,
    ⟨(some 0), .mv (.t 16), none, 328448, 3, []⟩])
  (.reg [⟨(some 17), .mv (.t 1), none, 393216, 0, []⟩,
    ⟨(some 18), .bin .quo (.t 17) (.k (.int .i64 2)), none, 393472, 1, []⟩,
    ⟨(some 1), .mv (.t 18), none, 393728, 2, []⟩])))))))
 (.seq (.reg [⟨(some 19), .mv (.t 5), none, 458752, 0, []⟩,
   ⟨(some 4), .mv (.t 19), none, 459008, 1, []⟩])
 (.ret))))⟩
def fns : Nat → Option F
  | 3 => some F3
  | 4 => some F4
  | 5 => some F5
  | 6 => some F6
  | 7 => some F7
  | 16 => some F16
  | 17 => some F17
  | 18 => some F18
  | 19 => some F19
  | 20 => some F20
  | 21 => some F21
  | 22 => some F22
  | 23 => some F23
  | 24 => some F24
  | 25 => some F25
  | 26 => some F26
  | 27 => some F27
  | 28 => some F28
  | 29 => some F29
  | 30 => some F30
  | 31 => some F31
  | 32 => some F32
  | 33 => some F33
  | 34 => some F34
  | 35 => some F35
  | 36 => some F36
  | 37 => some F37
  | 38 => some F38
  | 39 => some F39
  | 40 => some F40
  | 65 => some F65
  | 66 => some F66
  | 69 => some F69
  | 70 => some F70
  | 71 => some F71
  | 72 => some F72
  | 73 => some F73
  | 75 => some F75
  | 76 => some F76
  | 77 => some F77
  | 78 => some F78
  | 79 => some F79
  | 80 => some F80
  | 81 => some F81
  | 82 => some F82
  | 83 => some F83
  | 84 => some F84
  | 85 => some F85
  | 86 => some F86
  | 87 => some F87
  | 88 => some F88
  | 96 => some F96
  | 122 => some F122
  | 123 => some F123
  | 124 => some F124
  | 128 => some F128
  | 129 => some F129
  | 130 => some F130
  | 131 => some F131
  | 132 => some F132
  | 133 => some F133
  | 134 => some F134
  | 146 => some F146
  | 147 => some F147
  | 148 => some F148
  | 149 => some F149
  | 150 => some F150
  | 153 => some F153
  | 154 => some F154
  | 155 => some F155
  | 156 => some F156
  | 157 => some F157
  | 158 => some F158
  | 159 => some F159
  | 160 => some F160
  | 161 => some F161
  | 162 => some F162
  | 163 => some F163
  | 168 => some F168
  | 169 => some F169
  | 170 => some F170
  | 173 => some F173
  | 174 => some F174
  | 175 => some F175
  | _ => none
def nats : Nat → Option (List AV → Option (AV × List Blk))
  | 74 => some natJoin
  | 135 => some natRepeat
  | _ => none
def code : Prog := ⟨fns, md, nats⟩
theorem nat74 (k : Nat) (args : List AV) (E : List Heap) (v : AV) (bs : List Blk) (h : natJoin args = some (v, bs)) : call code (k + 1) 74 args E = some ⟨v, bs, E⟩ := call_nat rfl h
theorem nat135 (k : Nat) (args : List AV) (E : List Heap) (v : AV) (bs : List Blk) (h : natRepeat args = some (v, bs)) : call code (k + 1) 135 args E = some ⟨v, bs, E⟩ := call_nat rfl h
theorem fn3 : code.fn 3 = some F3 := rfl
theorem fn4 : code.fn 4 = some F4 := rfl
theorem fn5 : code.fn 5 = some F5 := rfl
theorem fn6 : code.fn 6 = some F6 := rfl
theorem fn7 : code.fn 7 = some F7 := rfl
theorem fn16 : code.fn 16 = some F16 := rfl
theorem fn17 : code.fn 17 = some F17 := rfl
theorem fn18 : code.fn 18 = some F18 := rfl
theorem fn19 : code.fn 19 = some F19 := rfl
theorem fn20 : code.fn 20 = some F20 := rfl
theorem fn21 : code.fn 21 = some F21 := rfl
theorem fn22 : code.fn 22 = some F22 := rfl
theorem fn23 : code.fn 23 = some F23 := rfl
theorem fn24 : code.fn 24 = some F24 := rfl
theorem fn25 : code.fn 25 = some F25 := rfl
theorem fn26 : code.fn 26 = some F26 := rfl
theorem fn27 : code.fn 27 = some F27 := rfl
theorem fn28 : code.fn 28 = some F28 := rfl
theorem fn29 : code.fn 29 = some F29 := rfl
theorem fn30 : code.fn 30 = some F30 := rfl
theorem fn31 : code.fn 31 = some F31 := rfl
theorem fn32 : code.fn 32 = some F32 := rfl
theorem fn33 : code.fn 33 = some F33 := rfl
theorem fn34 : code.fn 34 = some F34 := rfl
theorem fn35 : code.fn 35 = some F35 := rfl
theorem fn36 : code.fn 36 = some F36 := rfl
theorem fn37 : code.fn 37 = some F37 := rfl
theorem fn38 : code.fn 38 = some F38 := rfl
theorem fn39 : code.fn 39 = some F39 := rfl
theorem fn40 : code.fn 40 = some F40 := rfl
theorem fn65 : code.fn 65 = some F65 := rfl
theorem fn66 : code.fn 66 = some F66 := rfl
theorem fn69 : code.fn 69 = some F69 := rfl
theorem fn70 : code.fn 70 = some F70 := rfl
theorem fn71 : code.fn 71 = some F71 := rfl
theorem fn72 : code.fn 72 = some F72 := rfl
theorem fn73 : code.fn 73 = some F73 := rfl
theorem fn75 : code.fn 75 = some F75 := rfl
theorem fn76 : code.fn 76 = some F76 := rfl
theorem fn77 : code.fn 77 = some F77 := rfl
theorem fn78 : code.fn 78 = some F78 := rfl
theorem fn79 : code.fn 79 = some F79 := rfl
theorem fn80 : code.fn 80 = some F80 := rfl
theorem fn81 : code.fn 81 = some F81 := rfl
theorem fn82 : code.fn 82 = some F82 := rfl
theorem fn83 : code.fn 83 = some F83 := rfl
theorem fn84 : code.fn 84 = some F84 := rfl
theorem fn85 : code.fn 85 = some F85 := rfl
theorem fn86 : code.fn 86 = some F86 := rfl
theorem fn87 : code.fn 87 = some F87 := rfl
theorem fn88 : code.fn 88 = some F88 := rfl
theorem fn96 : code.fn 96 = some F96 := rfl
theorem fn122 : code.fn 122 = some F122 := rfl
theorem fn123 : code.fn 123 = some F123 := rfl
theorem fn124 : code.fn 124 = some F124 := rfl
theorem fn128 : code.fn 128 = some F128 := rfl
theorem fn129 : code.fn 129 = some F129 := rfl
theorem fn130 : code.fn 130 = some F130 := rfl
theorem fn131 : code.fn 131 = some F131 := rfl
theorem fn132 : code.fn 132 = some F132 := rfl
theorem fn133 : code.fn 133 = some F133 := rfl
theorem fn134 : code.fn 134 = some F134 := rfl
theorem fn146 : code.fn 146 = some F146 := rfl
theorem fn147 : code.fn 147 = some F147 := rfl
theorem fn148 : code.fn 148 = some F148 := rfl
theorem fn149 : code.fn 149 = some F149 := rfl
theorem fn150 : code.fn 150 = some F150 := rfl
theorem fn153 : code.fn 153 = some F153 := rfl
theorem fn154 : code.fn 154 = some F154 := rfl
theorem fn155 : code.fn 155 = some F155 := rfl
theorem fn156 : code.fn 156 = some F156 := rfl
theorem fn157 : code.fn 157 = some F157 := rfl
theorem fn158 : code.fn 158 = some F158 := rfl
theorem fn159 : code.fn 159 = some F159 := rfl
theorem fn160 : code.fn 160 = some F160 := rfl
theorem fn161 : code.fn 161 = some F161 := rfl
theorem fn162 : code.fn 162 = some F162 := rfl
theorem fn163 : code.fn 163 = some F163 := rfl
theorem fn168 : code.fn 168 = some F168 := rfl
theorem fn169 : code.fn 169 = some F169 := rfl
theorem fn170 : code.fn 170 = some F170 := rfl
theorem fn173 : code.fn 173 = some F173 := rfl
theorem fn174 : code.fn 174 = some F174 := rfl
theorem fn175 : code.fn 175 = some F175 := rfl
theorem rcall74 {O : Oracle} {st : St} {Q : Ex → St → Prop} {fs : List Fr} {d : Option Nat} {b i : Nat} {ap : List X} {r : List IOp} (xs : List X) (fl : Bool) : RunO O code.md (⟨d, .call 74 xs fl, none, b, i, ap⟩ :: r) fs st Q = (quietOk st (.call 74 xs fl) ap = true ∧ RunQ O code.md (callVal O st b 74 (evalXs st xs) fl) d r fs st Q) := R_call 74 xs fl rfl
theorem rcall135 {O : Oracle} {st : St} {Q : Ex → St → Prop} {fs : List Fr} {d : Option Nat} {b i : Nat} {ap : List X} {r : List IOp} (xs : List X) (fl : Bool) : RunO O code.md (⟨d, .call 135 xs fl, none, b, i, ap⟩ :: r) fs st Q = (quietOk st (.call 135 xs fl) ap = true ∧ RunQ O code.md (callVal O st b 135 (evalXs st xs) fl) d r fs st Q) := R_call 135 xs fl rfl
theorem rcall3 {O : Oracle} {st : St} {Q : Ex → St → Prop} {fs : List Fr} {d : Option Nat} {b i : Nat} {ap : List X} {r : List IOp} (xs : List X) (fl : Bool) : RunO O code.md (⟨d, .call 3 xs fl, none, b, i, ap⟩ :: r) fs st Q = (quietOk st (.call 3 xs fl) ap = true ∧ RunQ O code.md (callVal O st b 3 (evalXs st xs) fl) d r fs st Q) := R_call 3 xs fl rfl
theorem rcall4 {O : Oracle} {st : St} {Q : Ex → St → Prop} {fs : List Fr} {d : Option Nat} {b i : Nat} {ap : List X} {r : List IOp} (xs : List X) (fl : Bool) : RunO O code.md (⟨d, .call 4 xs fl, none, b, i, ap⟩ :: r) fs st Q = (quietOk st (.call 4 xs fl) ap = true ∧ RunQ O code.md (callVal O st b 4 (evalXs st xs) fl) d r fs st Q) := R_call 4 xs fl rfl
theorem rcall5 {O : Oracle} {st : St} {Q : Ex → St → Prop} {fs : List Fr} {d : Option Nat} {b i : Nat} {ap : List X} {r : List IOp} (xs : List X) (fl : Bool) : RunO O code.md (⟨d, .call 5 xs fl, none, b, i, ap⟩ :: r) fs st Q = (quietOk st (.call 5 xs fl) ap = true ∧ RunQ O code.md (callVal O st b 5 (evalXs st xs) fl) d r fs st Q) := R_call 5 xs fl rfl
theorem rcall6 {O : Oracle} {st : St} {Q : Ex → St → Prop} {fs : List Fr} {d : Option Nat} {b i : Nat} {ap : List X} {r : List IOp} (xs : List X) (fl : Bool) : RunO O code.md (⟨d, .call 6 xs fl, none, b, i, ap⟩ :: r) fs st Q = (quietOk st (.call 6 xs fl) ap = true ∧ RunQ O code.md (callVal O st b 6 (evalXs st xs) fl) d r fs st Q) := R_call 6 xs fl rfl
theorem rcall7 {O : Oracle} {st : St} {Q : Ex → St → Prop} {fs : List Fr} {d : Option Nat} {b i : Nat} {ap : List X} {r : List IOp} (xs : List X) (fl : Bool) : RunO O code.md (⟨d, .call 7 xs fl, none, b, i, ap⟩ :: r) fs st Q = (quietOk st (.call 7 xs fl) ap = true ∧ RunQ O code.md (callVal O st b 7 (evalXs st xs) fl) d r fs st Q) := R_call 7 xs fl rfl
theorem rcall16 {O : Oracle} {st : St} {Q : Ex → St → Prop} {fs : List Fr} {d : Option Nat} {b i : Nat} {ap : List X} {r : List IOp} (xs : List X) (fl : Bool) : RunO O code.md (⟨d, .call 16 xs fl, none, b, i, ap⟩ :: r) fs st Q = (quietOk st (.call 16 xs fl) ap = true ∧ RunQ O code.md (callVal O st b 16 (evalXs st xs) fl) d r fs st Q) := R_call 16 xs fl rfl
theorem rcall17 {O : Oracle} {st : St} {Q : Ex → St → Prop} {fs : List Fr} {d : Option Nat} {b i : Nat} {ap : List X} {r : List IOp} (xs : List X) (fl : Bool) : RunO O code.md (⟨d, .call 17 xs fl, none, b, i, ap⟩ :: r) fs st Q = (quietOk st (.call 17 xs fl) ap = true ∧ RunQ O code.md (callVal O st b 17 (evalXs st xs) fl) d r fs st Q) := R_call 17 xs fl rfl
theorem rcall18 {O : Oracle} {st : St} {Q : Ex → St → Prop} {fs : List Fr} {d : Option Nat} {b i : Nat} {ap : List X} {r : List IOp} (xs : List X) (fl : Bool) : RunO O code.md (⟨d, .call 18 xs fl, none, b, i, ap⟩ :: r) fs st Q = (quietOk st (.call 18 xs fl) ap = true ∧ RunQ O code.md (callVal O st b 18 (evalXs st xs) fl) d r fs st Q) := R_call 18 xs fl rfl
theorem rcall19 {O : Oracle} {st : St} {Q : Ex → St → Prop} {fs : List Fr} {d : Option Nat} {b i : Nat} {ap : List X} {r : List IOp} (xs : List X) (fl : Bool) : RunO O code.md (⟨d, .call 19 xs fl, none, b, i, ap⟩ :: r) fs st Q = (quietOk st (.call 19 xs fl) ap = true ∧ RunQ O code.md (callVal O st b 19 (evalXs st xs) fl) d r fs st Q) := R_call 19 xs fl rfl
theorem rcall20 {O : Oracle} {st : St} {Q : Ex → St → Prop} {fs : List Fr} {d : Option Nat} {b i : Nat} {ap : List X} {r : List IOp} (xs : List X) (fl : Bool) : RunO O code.md (⟨d, .call 20 xs fl, none, b, i, ap⟩ :: r) fs st Q = (quietOk st (.call 20 xs fl) ap = true ∧ RunQ O code.md (callVal O st b 20 (evalXs st xs) fl) d r fs st Q) := R_call 20 xs fl rfl
theorem rcall21 {O : Oracle} {st : St} {Q : Ex → St → Prop} {fs : List Fr} {d : Option Nat} {b i : Nat} {ap : List X} {r : List IOp} (xs : List X) (fl : Bool) : RunO O code.md (⟨d, .call 21 xs fl, none, b, i, ap⟩ :: r) fs st Q = (quietOk st (.call 21 xs fl) ap = true ∧ RunQ O code.md (callVal O st b 21 (evalXs st xs) fl) d r fs st Q) := R_call 21 xs fl rfl
theorem rcall22 {O : Oracle} {st : St} {Q : Ex → St → Prop} {fs : List Fr} {d : Option Nat} {b i : Nat} {ap : List X} {r : List IOp} (xs : List X) (fl : Bool) : RunO O code.md (⟨d, .call 22 xs fl, none, b, i, ap⟩ :: r) fs st Q = (quietOk st (.call 22 xs fl) ap = true ∧ RunQ O code.md (callVal O st b 22 (evalXs st xs) fl) d r fs st Q) := R_call 22 xs fl rfl
theorem rcall23 {O : Oracle} {st : St} {Q : Ex → St → Prop} {fs : List Fr} {d : Option Nat} {b i : Nat} {ap : List X} {r : List IOp} (xs : List X) (fl : Bool) : RunO O code.md (⟨d, .call 23 xs fl, none, b, i, ap⟩ :: r) fs st Q = (quietOk st (.call 23 xs fl) ap = true ∧ RunQ O code.md (callVal O st b 23 (evalXs st xs) fl) d r fs st Q) := R_call 23 xs fl rfl
theorem rcall24 {O : Oracle} {st : St} {Q : Ex → St → Prop} {fs : List Fr} {d : Option Nat} {b i : Nat} {ap : List X} {r : List IOp} (xs : List X) (fl : Bool) : RunO O code.md (⟨d, .call 24 xs fl, none, b, i, ap⟩ :: r) fs st Q = (quietOk st (.call 24 xs fl) ap = true ∧ RunQ O code.md (callVal O st b 24 (evalXs st xs) fl) d r fs st Q) := R_call 24 xs fl rfl
theorem rcall25 {O : Oracle} {st : St} {Q : Ex → St → Prop} {fs : List Fr} {d : Option Nat} {b i : Nat} {ap : List X} {r : List IOp} (xs : List X) (fl : Bool) : RunO O code.md (⟨d, .call 25 xs fl, none, b, i, ap⟩ :: r) fs st Q = (quietOk st (.call 25 xs fl) ap = true ∧ RunQ O code.md (callVal O st b 25 (evalXs st xs) fl) d r fs st Q) := R_call 25 xs fl rfl
theorem rcall26 {O : Oracle} {st : St} {Q : Ex → St → Prop} {fs : List Fr} {d : Option Nat} {b i : Nat} {ap : List X} {r : List IOp} (xs : List X) (fl : Bool) : RunO O code.md (⟨d, .call 26 xs fl, none, b, i, ap⟩ :: r) fs st Q = (quietOk st (.call 26 xs fl) ap = true ∧ RunQ O code.md (callVal O st b 26 (evalXs st xs) fl) d r fs st Q) := R_call 26 xs fl rfl
theorem rcall27 {O : Oracle} {st : St} {Q : Ex → St → Prop} {fs : List Fr} {d : Option Nat} {b i : Nat} {ap : List X} {r : List IOp} (xs : List X) (fl : Bool) : RunO O code.md (⟨d, .call 27 xs fl, none, b, i, ap⟩ :: r) fs st Q = ((apartOk st (.call 27 xs fl) ap && keyedOk st ap) = true ∧ RunK O code.md (callRef O st b 27 (evalXs st xs) fl) st (.call 27 xs fl) ap d r fs Q) := R_callr 27 xs fl rfl
theorem rcall28 {O : Oracle} {st : St} {Q : Ex → St → Prop} {fs : List Fr} {d : Option Nat} {b i : Nat} {ap : List X} {r : List IOp} (xs : List X) (fl : Bool) : RunO O code.md (⟨d, .call 28 xs fl, none, b, i, ap⟩ :: r) fs st Q = ((apartOk st (.call 28 xs fl) ap && keyedOk st ap) = true ∧ RunK O code.md (callRef O st b 28 (evalXs st xs) fl) st (.call 28 xs fl) ap d r fs Q) := R_callr 28 xs fl rfl
theorem rcall29 {O : Oracle} {st : St} {Q : Ex → St → Prop} {fs : List Fr} {d : Option Nat} {b i : Nat} {ap : List X} {r : List IOp} (xs : List X) (fl : Bool) : RunO O code.md (⟨d, .call 29 xs fl, none, b, i, ap⟩ :: r) fs st Q = (quietOk st (.call 29 xs fl) ap = true ∧ RunQ O code.md (callVal O st b 29 (evalXs st xs) fl) d r fs st Q) := R_call 29 xs fl rfl
theorem rcall30 {O : Oracle} {st : St} {Q : Ex → St → Prop} {fs : List Fr} {d : Option Nat} {b i : Nat} {ap : List X} {r : List IOp} (xs : List X) (fl : Bool) : RunO O code.md (⟨d, .call 30 xs fl, none, b, i, ap⟩ :: r) fs st Q = (quietOk st (.call 30 xs fl) ap = true ∧ RunQ O code.md (callVal O st b 30 (evalXs st xs) fl) d r fs st Q) := R_call 30 xs fl rfl
theorem rcall31 {O : Oracle} {st : St} {Q : Ex → St → Prop} {fs : List Fr} {d : Option Nat} {b i : Nat} {ap : List X} {r : List IOp} (xs : List X) (fl : Bool) : RunO O code.md (⟨d, .call 31 xs fl, none, b, i, ap⟩ :: r) fs st Q = (quietOk st (.call 31 xs fl) ap = true ∧ RunQ O code.md (callVal O st b 31 (evalXs st xs) fl) d r fs st Q) := R_call 31 xs fl rfl
theorem rcall32 {O : Oracle} {st : St} {Q : Ex → St → Prop} {fs : List Fr} {d : Option Nat} {b i : Nat} {ap : List X} {r : List IOp} (xs : List X) (fl : Bool) : RunO O code.md (⟨d, .call 32 xs fl, none, b, i, ap⟩ :: r) fs st Q = (quietOk st (.call 32 xs fl) ap = true ∧ RunQ O code.md (callVal O st b 32 (evalXs st xs) fl) d r fs st Q) := R_call 32 xs fl rfl
theorem rcall33 {O : Oracle} {st : St} {Q : Ex → St → Prop} {fs : List Fr} {d : Option Nat} {b i : Nat} {ap : List X} {r : List IOp} (xs : List X) (fl : Bool) : RunO O code.md (⟨d, .call 33 xs fl, none, b, i, ap⟩ :: r) fs st Q = (quietOk st (.call 33 xs fl) ap = true ∧ RunQ O code.md (callVal O st b 33 (evalXs st xs) fl) d r fs st Q) := R_call 33 xs fl rfl
theorem rcall34 {O : Oracle} {st : St} {Q : Ex → St → Prop} {fs : List Fr} {d : Option Nat} {b i : Nat} {ap : List X} {r : List IOp} (xs : List X) (fl : Bool) : RunO O code.md (⟨d, .call 34 xs fl, none, b, i, ap⟩ :: r) fs st Q = (quietOk st (.call 34 xs fl) ap = true ∧ RunQ O code.md (callVal O st b 34 (evalXs st xs) fl) d r fs st Q) := R_call 34 xs fl rfl
theorem rcall35 {O : Oracle} {st : St} {Q : Ex → St → Prop} {fs : List Fr} {d : Option Nat} {b i : Nat} {ap : List X} {r : List IOp} (xs : List X) (fl : Bool) : RunO O code.md (⟨d, .call 35 xs fl, none, b, i, ap⟩ :: r) fs st Q = (quietOk st (.call 35 xs fl) ap = true ∧ RunQ O code.md (callVal O st b 35 (evalXs st xs) fl) d r fs st Q) := R_call 35 xs fl rfl
theorem rcall36 {O : Oracle} {st : St} {Q : Ex → St → Prop} {fs : List Fr} {d : Option Nat} {b i : Nat} {ap : List X} {r : List IOp} (xs : List X) (fl : Bool) : RunO O code.md (⟨d, .call 36 xs fl, none, b, i, ap⟩ :: r) fs st Q = (quietOk st (.call 36 xs fl) ap = true ∧ RunQ O code.md (callVal O st b 36 (evalXs st xs) fl) d r fs st Q) := R_call 36 xs fl rfl
theorem rcall37 {O : Oracle} {st : St} {Q : Ex → St → Prop} {fs : List Fr} {d : Option Nat} {b i : Nat} {ap : List X} {r : List IOp} (xs : List X) (fl : Bool) : RunO O code.md (⟨d, .call 37 xs fl, none, b, i, ap⟩ :: r) fs st Q = (quietOk st (.call 37 xs fl) ap = true ∧ RunQ O code.md (callVal O st b 37 (evalXs st xs) fl) d r fs st Q) := R_call 37 xs fl rfl
theorem rcall38 {O : Oracle} {st : St} {Q : Ex → St → Prop} {fs : List Fr} {d : Option Nat} {b i : Nat} {ap : List X} {r : List IOp} (xs : List X) (fl : Bool) : RunO O code.md (⟨d, .call 38 xs fl, none, b, i, ap⟩ :: r) fs st Q = (quietOk st (.call 38 xs fl) ap = true ∧ RunQ O code.md (callVal O st b 38 (evalXs st xs) fl) d r fs st Q) := R_call 38 xs fl rfl
theorem rcall39 {O : Oracle} {st : St} {Q : Ex → St → Prop} {fs : List Fr} {d : Option Nat} {b i : Nat} {ap : List X} {r : List IOp} (xs : List X) (fl : Bool) : RunO O code.md (⟨d, .call 39 xs fl, none, b, i, ap⟩ :: r) fs st Q = (quietOk st (.call 39 xs fl) ap = true ∧ RunQ O code.md (callVal O st b 39 (evalXs st xs) fl) d r fs st Q) := R_call 39 xs fl rfl
theorem rcall40 {O : Oracle} {st : St} {Q : Ex → St → Prop} {fs : List Fr} {d : Option Nat} {b i : Nat} {ap : List X} {r : List IOp} (xs : List X) (fl : Bool) : RunO O code.md (⟨d, .call 40 xs fl, none, b, i, ap⟩ :: r) fs st Q = (quietOk st (.call 40 xs fl) ap = true ∧ RunQ O code.md (callVal O st b 40 (evalXs st xs) fl) d r fs st Q) := R_call 40 xs fl rfl
theorem rcall65 {O : Oracle} {st : St} {Q : Ex → St → Prop} {fs : List Fr} {d : Option Nat} {b i : Nat} {ap : List X} {r : List IOp} (xs : List X) (fl : Bool) : RunO O code.md (⟨d, .call 65 xs fl, none, b, i, ap⟩ :: r) fs st Q = (quietOk st (.call 65 xs fl) ap = true ∧ RunQ O code.md (callVal O st b 65 (evalXs st xs) fl) d r fs st Q) := R_call 65 xs fl rfl
theorem rcall66 {O : Oracle} {st : St} {Q : Ex → St → Prop} {fs : List Fr} {d : Option Nat} {b i : Nat} {ap : List X} {r : List IOp} (xs : List X) (fl : Bool) : RunO O code.md (⟨d, .call 66 xs fl, none, b, i, ap⟩ :: r) fs st Q = (quietOk st (.call 66 xs fl) ap = true ∧ RunQ O code.md (callVal O st b 66 (evalXs st xs) fl) d r fs st Q) := R_call 66 xs fl rfl
theorem rcall69 {O : Oracle} {st : St} {Q : Ex → St → Prop} {fs : List Fr} {d : Option Nat} {b i : Nat} {ap : List X} {r : List IOp} (xs : List X) (fl : Bool) : RunO O code.md (⟨d, .call 69 xs fl, none, b, i, ap⟩ :: r) fs st Q = (quietOk st (.call 69 xs fl) ap = true ∧ RunQ O code.md (callVal O st b 69 (evalXs st xs) fl) d r fs st Q) := R_call 69 xs fl rfl
theorem rcall70 {O : Oracle} {st : St} {Q : Ex → St → Prop} {fs : List Fr} {d : Option Nat} {b i : Nat} {ap : List X} {r : List IOp} (xs : List X) (fl : Bool) : RunO O code.md (⟨d, .call 70 xs fl, none, b, i, ap⟩ :: r) fs st Q = (quietOk st (.call 70 xs fl) ap = true ∧ RunQ O code.md (callVal O st b 70 (evalXs st xs) fl) d r fs st Q) := R_call 70 xs fl rfl
theorem rcall71 {O : Oracle} {st : St} {Q : Ex → St → Prop} {fs : List Fr} {d : Option Nat} {b i : Nat} {ap : List X} {r : List IOp} (xs : List X) (fl : Bool) : RunO O code.md (⟨d, .call 71 xs fl, none, b, i, ap⟩ :: r) fs st Q = (quietOk st (.call 71 xs fl) ap = true ∧ RunQ O code.md (callVal O st b 71 (evalXs st xs) fl) d r fs st Q) := R_call 71 xs fl rfl
theorem rcall72 {O : Oracle} {st : St} {Q : Ex → St → Prop} {fs : List Fr} {d : Option Nat} {b i : Nat} {ap : List X} {r : List IOp} (xs : List X) (fl : Bool) : RunO O code.md (⟨d, .call 72 xs fl, none, b, i, ap⟩ :: r) fs st Q = (quietOk st (.call 72 xs fl) ap = true ∧ RunQ O code.md (callVal O st b 72 (evalXs st xs) fl) d r fs st Q) := R_call 72 xs fl rfl
theorem rcall73 {O : Oracle} {st : St} {Q : Ex → St → Prop} {fs : List Fr} {d : Option Nat} {b i : Nat} {ap : List X} {r : List IOp} (xs : List X) (fl : Bool) : RunO O code.md (⟨d, .call 73 xs fl, none, b, i, ap⟩ :: r) fs st Q = (quietOk st (.call 73 xs fl) ap = true ∧ RunQ O code.md (callVal O st b 73 (evalXs st xs) fl) d r fs st Q) := R_call 73 xs fl rfl
theorem rcall75 {O : Oracle} {st : St} {Q : Ex → St → Prop} {fs : List Fr} {d : Option Nat} {b i : Nat} {ap : List X} {r : List IOp} (xs : List X) (fl : Bool) : RunO O code.md (⟨d, .call 75 xs fl, none, b, i, ap⟩ :: r) fs st Q = (quietOk st (.call 75 xs fl) ap = true ∧ RunQ O code.md (callVal O st b 75 (evalXs st xs) fl) d r fs st Q) := R_call 75 xs fl rfl
theorem rcall76 {O : Oracle} {st : St} {Q : Ex → St → Prop} {fs : List Fr} {d : Option Nat} {b i : Nat} {ap : List X} {r : List IOp} (xs : List X) (fl : Bool) : RunO O code.md (⟨d, .call 76 xs fl, none, b, i, ap⟩ :: r) fs st Q = (quietOk st (.call 76 xs fl) ap = true ∧ RunQ O code.md (callVal O st b 76 (evalXs st xs) fl) d r fs st Q) := R_call 76 xs fl rfl
theorem rcall77 {O : Oracle} {st : St} {Q : Ex → St → Prop} {fs : List Fr} {d : Option Nat} {b i : Nat} {ap : List X} {r : List IOp} (xs : List X) (fl : Bool) : RunO O code.md (⟨d, .call 77 xs fl, none, b, i, ap⟩ :: r) fs st Q = (quietOk st (.call 77 xs fl) ap = true ∧ RunQ O code.md (callVal O st b 77 (evalXs st xs) fl) d r fs st Q) := R_call 77 xs fl rfl
theorem rcall78 {O : Oracle} {st : St} {Q : Ex → St → Prop} {fs : List Fr} {d : Option Nat} {b i : Nat} {ap : List X} {r : List IOp} (xs : List X) (fl : Bool) : RunO O code.md (⟨d, .call 78 xs fl, none, b, i, ap⟩ :: r) fs st Q = (quietOk st (.call 78 xs fl) ap = true ∧ RunQ O code.md (callVal O st b 78 (evalXs st xs) fl) d r fs st Q) := R_call 78 xs fl rfl
theorem rcall79 {O : Oracle} {st : St} {Q : Ex → St → Prop} {fs : List Fr} {d : Option Nat} {b i : Nat} {ap : List X} {r : List IOp} (xs : List X) (fl : Bool) : RunO O code.md (⟨d, .call 79 xs fl, none, b, i, ap⟩ :: r) fs st Q = (quietOk st (.call 79 xs fl) ap = true ∧ RunQ O code.md (callVal O st b 79 (evalXs st xs) fl) d r fs st Q) := R_call 79 xs fl rfl
theorem rcall80 {O : Oracle} {st : St} {Q : Ex → St → Prop} {fs : List Fr} {d : Option Nat} {b i : Nat} {ap : List X} {r : List IOp} (xs : List X) (fl : Bool) : RunO O code.md (⟨d, .call 80 xs fl, none, b, i, ap⟩ :: r) fs st Q = (quietOk st (.call 80 xs fl) ap = true ∧ RunQ O code.md (callVal O st b 80 (evalXs st xs) fl) d r fs st Q) := R_call 80 xs fl rfl
theorem rcall81 {O : Oracle} {st : St} {Q : Ex → St → Prop} {fs : List Fr} {d : Option Nat} {b i : Nat} {ap : List X} {r : List IOp} (xs : List X) (fl : Bool) : RunO O code.md (⟨d, .call 81 xs fl, none, b, i, ap⟩ :: r) fs st Q = (quietOk st (.call 81 xs fl) ap = true ∧ RunQ O code.md (callVal O st b 81 (evalXs st xs) fl) d r fs st Q) := R_call 81 xs fl rfl
theorem rcall82 {O : Oracle} {st : St} {Q : Ex → St → Prop} {fs : List Fr} {d : Option Nat} {b i : Nat} {ap : List X} {r : List IOp} (xs : List X) (fl : Bool) : RunO O code.md (⟨d, .call 82 xs fl, none, b, i, ap⟩ :: r) fs st Q = (quietOk st (.call 82 xs fl) ap = true ∧ RunQ O code.md (callVal O st b 82 (evalXs st xs) fl) d r fs st Q) := R_call 82 xs fl rfl
theorem rcall83 {O : Oracle} {st : St} {Q : Ex → St → Prop} {fs : List Fr} {d : Option Nat} {b i : Nat} {ap : List X} {r : List IOp} (xs : List X) (fl : Bool) : RunO O code.md (⟨d, .call 83 xs fl, none, b, i, ap⟩ :: r) fs st Q = ((apartOk st (.call 83 xs fl) ap && keyedOk st ap) = true ∧ RunK O code.md (callRef O st b 83 (evalXs st xs) fl) st (.call 83 xs fl) ap d r fs Q) := R_callr 83 xs fl rfl
theorem rcall84 {O : Oracle} {st : St} {Q : Ex → St → Prop} {fs : List Fr} {d : Option Nat} {b i : Nat} {ap : List X} {r : List IOp} (xs : List X) (fl : Bool) : RunO O code.md (⟨d, .call 84 xs fl, none, b, i, ap⟩ :: r) fs st Q = (quietOk st (.call 84 xs fl) ap = true ∧ RunQ O code.md (callVal O st b 84 (evalXs st xs) fl) d r fs st Q) := R_call 84 xs fl rfl
theorem rcall85 {O : Oracle} {st : St} {Q : Ex → St → Prop} {fs : List Fr} {d : Option Nat} {b i : Nat} {ap : List X} {r : List IOp} (xs : List X) (fl : Bool) : RunO O code.md (⟨d, .call 85 xs fl, none, b, i, ap⟩ :: r) fs st Q = (quietOk st (.call 85 xs fl) ap = true ∧ RunQ O code.md (callVal O st b 85 (evalXs st xs) fl) d r fs st Q) := R_call 85 xs fl rfl
theorem rcall86 {O : Oracle} {st : St} {Q : Ex → St → Prop} {fs : List Fr} {d : Option Nat} {b i : Nat} {ap : List X} {r : List IOp} (xs : List X) (fl : Bool) : RunO O code.md (⟨d, .call 86 xs fl, none, b, i, ap⟩ :: r) fs st Q = (quietOk st (.call 86 xs fl) ap = true ∧ RunQ O code.md (callVal O st b 86 (evalXs st xs) fl) d r fs st Q) := R_call 86 xs fl rfl
theorem rcall87 {O : Oracle} {st : St} {Q : Ex → St → Prop} {fs : List Fr} {d : Option Nat} {b i : Nat} {ap : List X} {r : List IOp} (xs : List X) (fl : Bool) : RunO O code.md (⟨d, .call 87 xs fl, none, b, i, ap⟩ :: r) fs st Q = (quietOk st (.call 87 xs fl) ap = true ∧ RunQ O code.md (callVal O st b 87 (evalXs st xs) fl) d r fs st Q) := R_call 87 xs fl rfl
theorem rcall88 {O : Oracle} {st : St} {Q : Ex → St → Prop} {fs : List Fr} {d : Option Nat} {b i : Nat} {ap : List X} {r : List IOp} (xs : List X) (fl : Bool) : RunO O code.md (⟨d, .call 88 xs fl, none, b, i, ap⟩ :: r) fs st Q = (quietOk st (.call 88 xs fl) ap = true ∧ RunQ O code.md (callVal O st b 88 (evalXs st xs) fl) d r fs st Q) := R_call 88 xs fl rfl
theorem rcall96 {O : Oracle} {st : St} {Q : Ex → St → Prop} {fs : List Fr} {d : Option Nat} {b i : Nat} {ap : List X} {r : List IOp} (xs : List X) (fl : Bool) : RunO O code.md (⟨d, .call 96 xs fl, none, b, i, ap⟩ :: r) fs st Q = (quietOk st (.call 96 xs fl) ap = true ∧ RunQ O code.md (callVal O st b 96 (evalXs st xs) fl) d r fs st Q) := R_call 96 xs fl rfl
theorem rcall122 {O : Oracle} {st : St} {Q : Ex → St → Prop} {fs : List Fr} {d : Option Nat} {b i : Nat} {ap : List X} {r : List IOp} (xs : List X) (fl : Bool) : RunO O code.md (⟨d, .call 122 xs fl, none, b, i, ap⟩ :: r) fs st Q = ((apartOk st (.call 122 xs fl) ap && keyedOk st ap) = true ∧ RunK O code.md (callRef O st b 122 (evalXs st xs) fl) st (.call 122 xs fl) ap d r fs Q) := R_callr 122 xs fl rfl
theorem rcall123 {O : Oracle} {st : St} {Q : Ex → St → Prop} {fs : List Fr} {d : Option Nat} {b i : Nat} {ap : List X} {r : List IOp} (xs : List X) (fl : Bool) : RunO O code.md (⟨d, .call 123 xs fl, none, b, i, ap⟩ :: r) fs st Q = (quietOk st (.call 123 xs fl) ap = true ∧ RunQ O code.md (callVal O st b 123 (evalXs st xs) fl) d r fs st Q) := R_call 123 xs fl rfl
theorem rcall124 {O : Oracle} {st : St} {Q : Ex → St → Prop} {fs : List Fr} {d : Option Nat} {b i : Nat} {ap : List X} {r : List IOp} (xs : List X) (fl : Bool) : RunO O code.md (⟨d, .call 124 xs fl, none, b, i, ap⟩ :: r) fs st Q = (quietOk st (.call 124 xs fl) ap = true ∧ RunQ O code.md (callVal O st b 124 (evalXs st xs) fl) d r fs st Q) := R_call 124 xs fl rfl
theorem rcall128 {O : Oracle} {st : St} {Q : Ex → St → Prop} {fs : List Fr} {d : Option Nat} {b i : Nat} {ap : List X} {r : List IOp} (xs : List X) (fl : Bool) : RunO O code.md (⟨d, .call 128 xs fl, none, b, i, ap⟩ :: r) fs st Q = (quietOk st (.call 128 xs fl) ap = true ∧ RunQ O code.md (callVal O st b 128 (evalXs st xs) fl) d r fs st Q) := R_call 128 xs fl rfl
theorem rcall129 {O : Oracle} {st : St} {Q : Ex → St → Prop} {fs : List Fr} {d : Option Nat} {b i : Nat} {ap : List X} {r : List IOp} (xs : List X) (fl : Bool) : RunO O code.md (⟨d, .call 129 xs fl, none, b, i, ap⟩ :: r) fs st Q = (quietOk st (.call 129 xs fl) ap = true ∧ RunQ O code.md (callVal O st b 129 (evalXs st xs) fl) d r fs st Q) := R_call 129 xs fl rfl
theorem rcall130 {O : Oracle} {st : St} {Q : Ex → St → Prop} {fs : List Fr} {d : Option Nat} {b i : Nat} {ap : List X} {r : List IOp} (xs : List X) (fl : Bool) : RunO O code.md (⟨d, .call 130 xs fl, none, b, i, ap⟩ :: r) fs st Q = (quietOk st (.call 130 xs fl) ap = true ∧ RunQ O code.md (callVal O st b 130 (evalXs st xs) fl) d r fs st Q) := R_call 130 xs fl rfl
theorem rcall131 {O : Oracle} {st : St} {Q : Ex → St → Prop} {fs : List Fr} {d : Option Nat} {b i : Nat} {ap : List X} {r : List IOp} (xs : List X) (fl : Bool) : RunO O code.md (⟨d, .call 131 xs fl, none, b, i, ap⟩ :: r) fs st Q = (quietOk st (.call 131 xs fl) ap = true ∧ RunQ O code.md (callVal O st b 131 (evalXs st xs) fl) d r fs st Q) := R_call 131 xs fl rfl
theorem rcall132 {O : Oracle} {st : St} {Q : Ex → St → Prop} {fs : List Fr} {d : Option Nat} {b i : Nat} {ap : List X} {r : List IOp} (xs : List X) (fl : Bool) : RunO O code.md (⟨d, .call 132 xs fl, none, b, i, ap⟩ :: r) fs st Q = (quietOk st (.call 132 xs fl) ap = true ∧ RunQ O code.md (callVal O st b 132 (evalXs st xs) fl) d r fs st Q) := R_call 132 xs fl rfl
theorem rcall133 {O : Oracle} {st : St} {Q : Ex → St → Prop} {fs : List Fr} {d : Option Nat} {b i : Nat} {ap : List X} {r : List IOp} (xs : List X) (fl : Bool) : RunO O code.md (⟨d, .call 133 xs fl, none, b, i, ap⟩ :: r) fs st Q = (quietOk st (.call 133 xs fl) ap = true ∧ RunQ O code.md (callVal O st b 133 (evalXs st xs) fl) d r fs st Q) := R_call 133 xs fl rfl
theorem rcall134 {O : Oracle} {st : St} {Q : Ex → St → Prop} {fs : List Fr} {d : Option Nat} {b i : Nat} {ap : List X} {r : List IOp} (xs : List X) (fl : Bool) : RunO O code.md (⟨d, .call 134 xs fl, none, b, i, ap⟩ :: r) fs st Q = ((apartOk st (.call 134 xs fl) ap && keyedOk st ap) = true ∧ RunK O code.md (callRef O st b 134 (evalXs st xs) fl) st (.call 134 xs fl) ap d r fs Q) := R_callr 134 xs fl rfl
theorem rcall146 {O : Oracle} {st : St} {Q : Ex → St → Prop} {fs : List Fr} {d : Option Nat} {b i : Nat} {ap : List X} {r : List IOp} (xs : List X) (fl : Bool) : RunO O code.md (⟨d, .call 146 xs fl, none, b, i, ap⟩ :: r) fs st Q = (quietOk st (.call 146 xs fl) ap = true ∧ RunQ O code.md (callVal O st b 146 (evalXs st xs) fl) d r fs st Q) := R_call 146 xs fl rfl
theorem rcall147 {O : Oracle} {st : St} {Q : Ex → St → Prop} {fs : List Fr} {d : Option Nat} {b i : Nat} {ap : List X} {r : List IOp} (xs : List X) (fl : Bool) : RunO O code.md (⟨d, .call 147 xs fl, none, b, i, ap⟩ :: r) fs st Q = (quietOk st (.call 147 xs fl) ap = true ∧ RunQ O code.md (callVal O st b 147 (evalXs st xs) fl) d r fs st Q) := R_call 147 xs fl rfl
theorem rcall148 {O : Oracle} {st : St} {Q : Ex → St → Prop} {fs : List Fr} {d : Option Nat} {b i : Nat} {ap : List X} {r : List IOp} (xs : List X) (fl : Bool) : RunO O code.md (⟨d, .call 148 xs fl, none, b, i, ap⟩ :: r) fs st Q = ((apartOk st (.call 148 xs fl) ap && keyedOk st ap) = true ∧ RunK O code.md (callRef O st b 148 (evalXs st xs) fl) st (.call 148 xs fl) ap d r fs Q) := R_callr 148 xs fl rfl
theorem rcall149 {O : Oracle} {st : St} {Q : Ex → St → Prop} {fs : List Fr} {d : Option Nat} {b i : Nat} {ap : List X} {r : List IOp} (xs : List X) (fl : Bool) : RunO O code.md (⟨d, .call 149 xs fl, none, b, i, ap⟩ :: r) fs st Q = (quietOk st (.call 149 xs fl) ap = true ∧ RunQ O code.md (callVal O st b 149 (evalXs st xs) fl) d r fs st Q) := R_call 149 xs fl rfl
theorem rcall150 {O : Oracle} {st : St} {Q : Ex → St → Prop} {fs : List Fr} {d : Option Nat} {b i : Nat} {ap : List X} {r : List IOp} (xs : List X) (fl : Bool) : RunO O code.md (⟨d, .call 150 xs fl, none, b, i, ap⟩ :: r) fs st Q = (quietOk st (.call 150 xs fl) ap = true ∧ RunQ O code.md (callVal O st b 150 (evalXs st xs) fl) d r fs st Q) := R_call 150 xs fl rfl
theorem rcall153 {O : Oracle} {st : St} {Q : Ex → St → Prop} {fs : List Fr} {d : Option Nat} {b i : Nat} {ap : List X} {r : List IOp} (xs : List X) (fl : Bool) : RunO O code.md (⟨d, .call 153 xs fl, none, b, i, ap⟩ :: r) fs st Q = (quietOk st (.call 153 xs fl) ap = true ∧ RunQ O code.md (callVal O st b 153 (evalXs st xs) fl) d r fs st Q) := R_call 153 xs fl rfl
theorem rcall154 {O : Oracle} {st : St} {Q : Ex → St → Prop} {fs : List Fr} {d : Option Nat} {b i : Nat} {ap : List X} {r : List IOp} (xs : List X) (fl : Bool) : RunO O code.md (⟨d, .call 154 xs fl, none, b, i, ap⟩ :: r) fs st Q = (quietOk st (.call 154 xs fl) ap = true ∧ RunQ O code.md (callVal O st b 154 (evalXs st xs) fl) d r fs st Q) := R_call 154 xs fl rfl
theorem rcall155 {O : Oracle} {st : St} {Q : Ex → St → Prop} {fs : List Fr} {d : Option Nat} {b i : Nat} {ap : List X} {r : List IOp} (xs : List X) (fl : Bool) : RunO O code.md (⟨d, .call 155 xs fl, none, b, i, ap⟩ :: r) fs st Q = (quietOk st (.call 155 xs fl) ap = true ∧ RunV O code.md (callView O st 155 (evalXs st xs)) d r fs st Q) := R_callv' 155 xs fl rfl
theorem rcall156 {O : Oracle} {st : St} {Q : Ex → St → Prop} {fs : List Fr} {d : Option Nat} {b i : Nat} {ap : List X} {r : List IOp} (xs : List X) (fl : Bool) : RunO O code.md (⟨d, .call 156 xs fl, none, b, i, ap⟩ :: r) fs st Q = ((apartOk st (.call 156 xs fl) ap && keyedOk st ap) = true ∧ RunK O code.md (callRef O st b 156 (evalXs st xs) fl) st (.call 156 xs fl) ap d r fs Q) := R_callr 156 xs fl rfl
theorem rcall157 {O : Oracle} {st : St} {Q : Ex → St → Prop} {fs : List Fr} {d : Option Nat} {b i : Nat} {ap : List X} {r : List IOp} (xs : List X) (fl : Bool) : RunO O code.md (⟨d, .call 157 xs fl, none, b, i, ap⟩ :: r) fs st Q = (quietOk st (.call 157 xs fl) ap = true ∧ RunQ O code.md (callVal O st b 157 (evalXs st xs) fl) d r fs st Q) := R_call 157 xs fl rfl
theorem rcall158 {O : Oracle} {st : St} {Q : Ex → St → Prop} {fs : List Fr} {d : Option Nat} {b i : Nat} {ap : List X} {r : List IOp} (xs : List X) (fl : Bool) : RunO O code.md (⟨d, .call 158 xs fl, none, b, i, ap⟩ :: r) fs st Q = (quietOk st (.call 158 xs fl) ap = true ∧ RunQ O code.md (callVal O st b 158 (evalXs st xs) fl) d r fs st Q) := R_call 158 xs fl rfl
theorem rcall159 {O : Oracle} {st : St} {Q : Ex → St → Prop} {fs : List Fr} {d : Option Nat} {b i : Nat} {ap : List X} {r : List IOp} (xs : List X) (fl : Bool) : RunO O code.md (⟨d, .call 159 xs fl, none, b, i, ap⟩ :: r) fs st Q = (quietOk st (.call 159 xs fl) ap = true ∧ RunQ O code.md (callVal O st b 159 (evalXs st xs) fl) d r fs st Q) := R_call 159 xs fl rfl
theorem rcall160 {O : Oracle} {st : St} {Q : Ex → St → Prop} {fs : List Fr} {d : Option Nat} {b i : Nat} {ap : List X} {r : List IOp} (xs : List X) (fl : Bool) : RunO O code.md (⟨d, .call 160 xs fl, none, b, i, ap⟩ :: r) fs st Q = (quietOk st (.call 160 xs fl) ap = true ∧ RunQ O code.md (callVal O st b 160 (evalXs st xs) fl) d r fs st Q) := R_call 160 xs fl rfl
theorem rcall161 {O : Oracle} {st : St} {Q : Ex → St → Prop} {fs : List Fr} {d : Option Nat} {b i : Nat} {ap : List X} {r : List IOp} (xs : List X) (fl : Bool) : RunO O code.md (⟨d, .call 161 xs fl, none, b, i, ap⟩ :: r) fs st Q = (quietOk st (.call 161 xs fl) ap = true ∧ RunQ O code.md (callVal O st b 161 (evalXs st xs) fl) d r fs st Q) := R_call 161 xs fl rfl
theorem rcall162 {O : Oracle} {st : St} {Q : Ex → St → Prop} {fs : List Fr} {d : Option Nat} {b i : Nat} {ap : List X} {r : List IOp} (xs : List X) (fl : Bool) : RunO O code.md (⟨d, .call 162 xs fl, none, b, i, ap⟩ :: r) fs st Q = (quietOk st (.call 162 xs fl) ap = true ∧ RunQ O code.md (callVal O st b 162 (evalXs st xs) fl) d r fs st Q) := R_call 162 xs fl rfl
theorem rcall163 {O : Oracle} {st : St} {Q : Ex → St → Prop} {fs : List Fr} {d : Option Nat} {b i : Nat} {ap : List X} {r : List IOp} (xs : List X) (fl : Bool) : RunO O code.md (⟨d, .call 163 xs fl, none, b, i, ap⟩ :: r) fs st Q = (quietOk st (.call 163 xs fl) ap = true ∧ RunQ O code.md (callVal O st b 163 (evalXs st xs) fl) d r fs st Q) := R_call 163 xs fl rfl
theorem rcall168 {O : Oracle} {st : St} {Q : Ex → St → Prop} {fs : List Fr} {d : Option Nat} {b i : Nat} {ap : List X} {r : List IOp} (xs : List X) (fl : Bool) : RunO O code.md (⟨d, .call 168 xs fl, none, b, i, ap⟩ :: r) fs st Q = (quietOk st (.call 168 xs fl) ap = true ∧ RunQ O code.md (callVal O st b 168 (evalXs st xs) fl) d r fs st Q) := R_call 168 xs fl rfl
theorem rcall169 {O : Oracle} {st : St} {Q : Ex → St → Prop} {fs : List Fr} {d : Option Nat} {b i : Nat} {ap : List X} {r : List IOp} (xs : List X) (fl : Bool) : RunO O code.md (⟨d, .call 169 xs fl, none, b, i, ap⟩ :: r) fs st Q = ((apartOk st (.call 169 xs fl) ap && keyedOk st ap) = true ∧ RunK O code.md (callRef O st b 169 (evalXs st xs) fl) st (.call 169 xs fl) ap d r fs Q) := R_callr 169 xs fl rfl
theorem rcall170 {O : Oracle} {st : St} {Q : Ex → St → Prop} {fs : List Fr} {d : Option Nat} {b i : Nat} {ap : List X} {r : List IOp} (xs : List X) (fl : Bool) : RunO O code.md (⟨d, .call 170 xs fl, none, b, i, ap⟩ :: r) fs st Q = ((apartOk st (.call 170 xs fl) ap && keyedOk st ap) = true ∧ RunK O code.md (callRef O st b 170 (evalXs st xs) fl) st (.call 170 xs fl) ap d r fs Q) := R_callr 170 xs fl rfl
theorem rcall173 {O : Oracle} {st : St} {Q : Ex → St → Prop} {fs : List Fr} {d : Option Nat} {b i : Nat} {ap : List X} {r : List IOp} (xs : List X) (fl : Bool) : RunO O code.md (⟨d, .call 173 xs fl, none, b, i, ap⟩ :: r) fs st Q = (quietOk st (.call 173 xs fl) ap = true ∧ RunQ O code.md (callVal O st b 173 (evalXs st xs) fl) d r fs st Q) := R_call 173 xs fl rfl
theorem rcall174 {O : Oracle} {st : St} {Q : Ex → St → Prop} {fs : List Fr} {d : Option Nat} {b i : Nat} {ap : List X} {r : List IOp} (xs : List X) (fl : Bool) : RunO O code.md (⟨d, .call 174 xs fl, none, b, i, ap⟩ :: r) fs st Q = (quietOk st (.call 174 xs fl) ap = true ∧ RunQ O code.md (callVal O st b 174 (evalXs st xs) fl) d r fs st Q) := R_call 174 xs fl rfl
theorem rcall175 {O : Oracle} {st : St} {Q : Ex → St → Prop} {fs : List Fr} {d : Option Nat} {b i : Nat} {ap : List X} {r : List IOp} (xs : List X) (fl : Bool) : RunO O code.md (⟨d, .call 175 xs fl, none, b, i, ap⟩ :: r) fs st Q = (quietOk st (.call 175 xs fl) ap = true ∧ RunQ O code.md (callVal O st b 175 (evalXs st xs) fl) d r fs st Q) := R_call 175 xs fl rfl
end Go.Ae.C3
