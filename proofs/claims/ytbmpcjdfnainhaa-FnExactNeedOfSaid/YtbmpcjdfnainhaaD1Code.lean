/- The code of the functions, for the evaluator. -/
import Derived.Test.YtbmpcjdfnainhaaAeL6
namespace Go.Ae.D1

def md : Nat → Mode
  | 14 => .ref
  | 15 => .ref
  | 47 => .ref
  | _ => .val
/-- loop.example/g00849/laws.FnExactIntervalAt -/
def F3 : F := ⟨2, 101, [.t 4],
 .seq (.reg [⟨(some 4), .mv (.k (.bool false)), none, 0, 0, []⟩])
 (.seq (.reg [⟨(some 5), .mv (.k (.int .i64 1048576)), none, 65536, 0, []⟩])
 (.seq (.reg [⟨(some 16), .mv (.t 0), none, 131072, 0, []⟩,
   ⟨(some 17), .mv (.t 5), none, 131328, 1, []⟩,
   ⟨(some 18), .call 8 [(.t 16), (.t 17)] true, none, 131584, 2, []⟩,
   ⟨(some 5), .mv (.t 18), none, 131840, 3, []⟩])
 (.seq (.seq (.reg [⟨(some 19), .mv (.t 5), none, 196608, 0, []⟩,
   ⟨(some 20), .bin .lss (.t 19) (.k (.int .i64 0)), none, 196864, 1, []⟩])
 (.cond (.t 20)
  (.seq (.reg [⟨(some 4), .mv (.k (.bool true)), none, 262144, 0, []⟩])
  (.ret))
  (.skip)))
 (.seq (.reg [⟨(some 22), .mv (.t 0), none, 327680, 0, []⟩,
   ⟨(some 23), .call 10 [(.t 22)] false, none, 327936, 1, []⟩,
   ⟨(some 24), .mv (.t 1), none, 328192, 2, []⟩,
   ⟨(some 25), .call 9 [(.t 23), (.t 24)] false, none, 328448, 3, []⟩,
   ⟨(some 21), .mv (.t 25), none, 328704, 4, []⟩,
   ⟨(some 26), .ext (.t 21) 0, none, 328960, 5, []⟩,
   ⟨(some 27), .ext (.t 21) 1, none, 329216, 6, []⟩,
   ⟨(some 6), .alloc [(.int .i64 0), (.int .i64 0), (.nil true 1), (.bool false)], none, 329472, 7, []⟩,
   ⟨none, .store 4 (.t 6) (.t 26), none, 329728, 8, []⟩,
   ⟨(some 7), .mv (.t 27), none, 329984, 9, []⟩])
 (.seq (.reg [⟨(some 28), .mv (.t 0), none, 393216, 0, []⟩,
   ⟨(some 29), .call 10 [(.t 28)] false, none, 393472, 1, []⟩,
   ⟨(some 8), .mv (.t 29), none, 393728, 2, []⟩])
 (.seq (.reg [⟨(some 31), .mv (.t 8), none, 458752, 0, []⟩,
   ⟨(some 32), .mv (.t 1), none, 459008, 1, []⟩,
   ⟨(some 33), .call 11 [(.t 31), (.t 32)] false, none, 459264, 2, []⟩,
   ⟨(some 30), .mv (.t 33), none, 459520, 3, []⟩,
   ⟨(some 34), .ext (.t 30) 0, none, 459776, 4, []⟩,
   ⟨(some 35), .ext (.t 30) 1, none, 460032, 5, []⟩,
   ⟨(some 9), .alloc [(.int .i64 0), (.int .i64 0), (.nil true 1), (.bool false)], none, 460288, 6, []⟩,
   ⟨none, .store 4 (.t 9) (.t 34), none, 460544, 7, []⟩,
   ⟨(some 10), .mv (.t 35), none, 460800, 8, []⟩])
 (.seq (.seq (.reg [⟨(some 36), .load 4 true (.t 9), none, 524288, 0, []⟩,
   ⟨(some 37), .load 4 true (.t 6), none, 524544, 1, []⟩,
   ⟨(some 38), .call 12 [(.t 36), (.t 37)] true, none, 524800, 2, []⟩,
   ⟨(some 39), .not (.t 38), none, 525056, 3, []⟩,
   ⟨(some 40), .mv (.t 39), none, 525312, 4, []⟩,
   ⟨(some 41), .mv (.t 10), (some (some 40, false)), 525568, 5, []⟩,
   ⟨(some 42), .mv (.t 7), (some (some 40, false)), 525824, 6, []⟩,
   ⟨(some 43), .eqv true false [.b] (.t 41) (.t 42), (some (some 40, false)), 526080, 7, []⟩,
   ⟨(some 44), .pick (.t 40) (.k (.bool true)) (.t 43), none, 526336, 8, []⟩])
 (.cond (.t 44)
  (.seq (.reg [⟨(some 4), .mv (.k (.bool false)), none, 589824, 0, []⟩])
  (.ret))
  (.skip)))
 (.seq (.seq (.reg [⟨(some 45), .mv (.t 8), none, 655360, 0, []⟩,
   ⟨(some 46), .mv (.t 0), none, 655616, 1, []⟩,
   ⟨(some 47), .call 10 [(.t 46)] false, none, 655872, 2, []⟩,
   ⟨(some 48), .call 13 [(.t 45), (.t 47)] true, none, 656128, 3, []⟩,
   ⟨(some 49), .not (.t 48), none, 656384, 4, []⟩])
 (.cond (.t 49)
  (.seq (.reg [⟨(some 4), .mv (.k (.bool false)), none, 720896, 0, []⟩])
  (.ret))
  (.skip)))
 (.seq (.reg [⟨(some 11), .mv (.k (.int .i64 1)), none, 786432, 0, []⟩])
 (.seq (.reg [⟨(some 50), .mv (.t 8), none, 851968, 0, []⟩,
   ⟨(some 51), .mv (.t 11), none, 852224, 1, []⟩,
   ⟨(some 52), .call 14 [(.t 50), (.t 51)] true, none, 852480, 2, []⟩,
   ⟨(some 11), .mv (.t 52), none, 852736, 3, []⟩])
 (.seq (.seq (.reg [⟨(some 53), .mv (.t 11), none, 917504, 0, []⟩,
   ⟨(some 54), .bin .lss (.t 53) (.k (.int .i64 0)), none, 917760, 1, []⟩,
   ⟨(some 55), .mv (.t 54), none, 918016, 2, []⟩,
   ⟨(some 56), .load 4 true (.t 9), (some (some 55, false)), 918272, 3, []⟩,
   ⟨(some 57), .load 4 true (.t 6), (some (some 55, false)), 918528, 4, []⟩,
   ⟨(some 58), .call 12 [(.t 56), (.t 57)] true, (some (some 55, false)), 918784, 5, []⟩,
   ⟨(some 59), .not (.t 58), (some (some 55, false)), 919040, 6, []⟩,
   ⟨(some 60), .pick (.t 55) (.k (.bool true)) (.t 59), none, 919296, 7, []⟩,
   ⟨(some 61), .mv (.t 60), none, 919552, 8, []⟩,
   ⟨(some 62), .mv (.t 10), (some (some 61, false)), 919808, 9, []⟩,
   ⟨(some 63), .mv (.t 7), (some (some 61, false)), 920064, 10, []⟩,
   ⟨(some 64), .eqv true false [.b] (.t 62) (.t 63), (some (some 61, false)), 920320, 11, []⟩,
   ⟨(some 65), .pick (.t 61) (.k (.bool true)) (.t 64), none, 920576, 12, []⟩])
 (.cond (.t 65)
  (.seq (.reg [⟨(some 4), .mv (.k (.bool false)), none, 983040, 0, []⟩])
  (.ret))
  (.skip)))
 (.seq (.reg [⟨(some 12), .mv (.k (.int .i64 1)), none, 1048576, 0, []⟩])
 (.seq (.reg [⟨(some 66), .load 4 true (.t 9), none, 1114112, 0, []⟩,
   ⟨(some 67), .mv (.t 12), none, 1114368, 1, []⟩,
   ⟨(some 68), .call 15 [(.t 66), (.t 67)] true, none, 1114624, 2, []⟩,
   ⟨(some 12), .mv (.t 68), none, 1114880, 3, []⟩])
 (.seq (.reg [⟨(some 13), .mv (.k (.int .i64 1)), none, 1179648, 0, []⟩])
 (.seq (.reg [⟨(some 69), .load 4 true (.t 9), none, 1245184, 0, []⟩,
   ⟨(some 70), .mv (.t 13), none, 1245440, 1, []⟩,
   ⟨(some 71), .call 16 [(.t 69), (.t 70)] true, none, 1245696, 2, []⟩,
   ⟨(some 13), .mv (.t 71), none, 1245952, 3, []⟩])
 (.seq (.seq (.reg [⟨(some 72), .mv (.t 13), none, 1310720, 0, []⟩,
   ⟨(some 73), .bin .lss (.t 72) (.k (.int .i64 0)), none, 1310976, 1, []⟩])
 (.cond (.t 73)
  (.seq (.reg [⟨(some 4), .mv (.k (.bool false)), none, 1376256, 0, []⟩])
  (.ret))
  (.skip)))
 (.seq (.seq (.reg [⟨(some 74), .mv (.t 13), none, 1441792, 0, []⟩,
   ⟨(some 75), .mv (.t 12), none, 1442048, 1, []⟩,
   ⟨(some 76), .bin .neq (.t 74) (.t 75), none, 1442304, 2, []⟩])
 (.cond (.t 76)
  (.seq (.reg [⟨(some 4), .mv (.k (.bool false)), none, 1507328, 0, []⟩])
  (.ret))
  (.skip)))
 (.seq (.reg [⟨(some 78), .mv (.t 0), none, 1572864, 0, []⟩,
   ⟨(some 79), .call 10 [(.t 78)] false, none, 1573120, 1, []⟩,
   ⟨(some 80), .mv (.t 1), none, 1573376, 2, []⟩,
   ⟨(some 81), .call 11 [(.t 79), (.t 80)] false, none, 1573632, 3, []⟩,
   ⟨(some 77), .mv (.t 81), none, 1573888, 4, []⟩,
   ⟨(some 82), .ext (.t 77) 0, none, 1574144, 5, []⟩,
   ⟨(some 83), .ext (.t 77) 1, none, 1574400, 6, []⟩,
   ⟨(some 14), .alloc [(.int .i64 0), (.int .i64 0), (.nil true 1), (.bool false)], none, 1574656, 7, []⟩,
   ⟨none, .store 4 (.t 14) (.t 82), none, 1574912, 8, []⟩,
   ⟨(some 15), .mv (.t 83), none, 1575168, 9, []⟩])
 (.seq (.seq (.reg [⟨(some 84), .load 4 true (.t 14), none, 1638400, 0, []⟩,
   ⟨(some 85), .load 4 true (.t 6), none, 1638656, 1, []⟩,
   ⟨(some 86), .call 12 [(.t 84), (.t 85)] true, none, 1638912, 2, []⟩,
   ⟨(some 87), .not (.t 86), none, 1639168, 3, []⟩,
   ⟨(some 88), .mv (.t 87), none, 1639424, 4, []⟩,
   ⟨(some 89), .mv (.t 15), (some (some 88, false)), 1639680, 5, []⟩,
   ⟨(some 90), .mv (.t 7), (some (some 88, false)), 1639936, 6, []⟩,
   ⟨(some 91), .eqv true false [.b] (.t 89) (.t 90), (some (some 88, false)), 1640192, 7, []⟩,
   ⟨(some 92), .pick (.t 88) (.k (.bool true)) (.t 91), none, 1640448, 8, []⟩])
 (.cond (.t 92)
  (.seq (.reg [⟨(some 4), .mv (.k (.bool false)), none, 1703936, 0, []⟩])
  (.ret))
  (.skip)))
 (.seq (.reg [⟨(some 13), .mv (.k (.int .i64 1)), none, 1769472, 0, []⟩])
 (.seq (.reg [⟨(some 93), .load 4 true (.t 9), none, 1835008, 0, []⟩,
   ⟨(some 94), .mv (.t 13), none, 1835264, 1, []⟩,
   ⟨(some 95), .call 16 [(.t 93), (.t 94)] true, none, 1835520, 2, []⟩,
   ⟨(some 13), .mv (.t 95), none, 1835776, 3, []⟩])
 (.seq (.seq (.reg [⟨(some 96), .mv (.t 13), none, 1900544, 0, []⟩,
   ⟨(some 97), .bin .lss (.t 96) (.k (.int .i64 0)), none, 1900800, 1, []⟩])
 (.cond (.t 97)
  (.seq (.reg [⟨(some 4), .mv (.k (.bool false)), none, 1966080, 0, []⟩])
  (.ret))
  (.skip)))
 (.seq (.seq (.reg [⟨(some 98), .mv (.t 13), none, 2031616, 0, []⟩,
   ⟨(some 99), .mv (.t 12), none, 2031872, 1, []⟩,
   ⟨(some 100), .bin .neq (.t 98) (.t 99), none, 2032128, 2, []⟩])
 (.cond (.t 100)
  (.seq (.reg [⟨(some 4), .mv (.k (.bool false)), none, 2097152, 0, []⟩])
  (.ret))
  (.skip)))
 (.seq (.reg [⟨(some 4), .mv (.k (.bool true)), none, 2162688, 0, []⟩])
 (.ret)))))))))))))))))))))))))⟩
/-- loop.example/g00849/laws.FnExactAheadOf -/
def F4 : F := ⟨2, 74, [.t 4],
 .seq (.reg [⟨(some 4), .mv (.k (.bool false)), none, 0, 0, []⟩])
 (.seq (.reg [⟨(some 5), .mv (.k (.int .i64 1048576)), none, 65536, 0, []⟩])
 (.seq (.reg [⟨(some 13), .mv (.t 0), none, 131072, 0, []⟩,
   ⟨(some 14), .mv (.t 5), none, 131328, 1, []⟩,
   ⟨(some 15), .call 8 [(.t 13), (.t 14)] true, none, 131584, 2, []⟩,
   ⟨(some 5), .mv (.t 15), none, 131840, 3, []⟩])
 (.seq (.seq (.reg [⟨(some 16), .mv (.t 5), none, 196608, 0, []⟩,
   ⟨(some 17), .bin .lss (.t 16) (.k (.int .i64 0)), none, 196864, 1, []⟩])
 (.cond (.t 17)
  (.seq (.reg [⟨(some 4), .mv (.k (.bool true)), none, 262144, 0, []⟩])
  (.ret))
  (.skip)))
 (.seq (.reg [⟨(some 18), .mv (.t 0), none, 327680, 0, []⟩,
   ⟨(some 19), .call 10 [(.t 18)] false, none, 327936, 1, []⟩,
   ⟨(some 20), .mv (.t 1), none, 328192, 2, []⟩,
   ⟨(some 21), .call 17 [(.t 19), (.t 20)] false, none, 328448, 3, []⟩,
   ⟨(some 6), .mv (.t 21), none, 328704, 4, []⟩])
 (.seq (.reg [⟨(some 22), .mv (.t 0), none, 393216, 0, []⟩,
   ⟨(some 23), .call 10 [(.t 22)] false, none, 393472, 1, []⟩,
   ⟨(some 7), .mv (.t 23), none, 393728, 2, []⟩])
 (.seq (.reg [⟨(some 24), .mv (.t 7), none, 458752, 0, []⟩,
   ⟨(some 25), .mv (.t 1), none, 459008, 1, []⟩,
   ⟨(some 26), .call 18 [(.t 24), (.t 25)] false, none, 459264, 2, []⟩,
   ⟨(some 8), .mv (.t 26), none, 459520, 3, []⟩])
 (.seq (.seq (.reg [⟨(some 27), .mv (.t 8), none, 524288, 0, []⟩,
   ⟨(some 28), .mv (.t 6), none, 524544, 1, []⟩,
   ⟨(some 29), .call 13 [(.t 27), (.t 28)] true, none, 524800, 2, []⟩,
   ⟨(some 30), .not (.t 29), none, 525056, 3, []⟩])
 (.cond (.t 30)
  (.seq (.reg [⟨(some 4), .mv (.k (.bool false)), none, 589824, 0, []⟩])
  (.ret))
  (.skip)))
 (.seq (.seq (.reg [⟨(some 31), .mv (.t 7), none, 655360, 0, []⟩,
   ⟨(some 32), .mv (.t 0), none, 655616, 1, []⟩,
   ⟨(some 33), .call 10 [(.t 32)] false, none, 655872, 2, []⟩,
   ⟨(some 34), .call 13 [(.t 31), (.t 33)] true, none, 656128, 3, []⟩,
   ⟨(some 35), .not (.t 34), none, 656384, 4, []⟩])
 (.cond (.t 35)
  (.seq (.reg [⟨(some 4), .mv (.k (.bool false)), none, 720896, 0, []⟩])
  (.ret))
  (.skip)))
 (.seq (.reg [⟨(some 9), .mv (.k (.int .i64 1)), none, 786432, 0, []⟩])
 (.seq (.reg [⟨(some 36), .mv (.t 7), none, 851968, 0, []⟩,
   ⟨(some 37), .mv (.t 9), none, 852224, 1, []⟩,
   ⟨(some 38), .call 14 [(.t 36), (.t 37)] true, none, 852480, 2, []⟩,
   ⟨(some 9), .mv (.t 38), none, 852736, 3, []⟩])
 (.seq (.seq (.reg [⟨(some 39), .mv (.t 9), none, 917504, 0, []⟩,
   ⟨(some 40), .bin .lss (.t 39) (.k (.int .i64 0)), none, 917760, 1, []⟩,
   ⟨(some 41), .mv (.t 40), none, 918016, 2, []⟩,
   ⟨(some 42), .mv (.t 8), (some (some 41, false)), 918272, 3, []⟩,
   ⟨(some 43), .mv (.t 6), (some (some 41, false)), 918528, 4, []⟩,
   ⟨(some 44), .call 13 [(.t 42), (.t 43)] true, (some (some 41, false)), 918784, 5, []⟩,
   ⟨(some 45), .not (.t 44), (some (some 41, false)), 919040, 6, []⟩,
   ⟨(some 46), .pick (.t 41) (.k (.bool true)) (.t 45), none, 919296, 7, []⟩])
 (.cond (.t 46)
  (.seq (.reg [⟨(some 4), .mv (.k (.bool false)), none, 983040, 0, []⟩])
  (.ret))
  (.skip)))
 (.seq (.reg [⟨(some 10), .mv (.k (.int .i64 1)), none, 1048576, 0, []⟩])
 (.seq (.reg [⟨(some 47), .mv (.t 8), none, 1114112, 0, []⟩,
   ⟨(some 48), .mv (.t 10), none, 1114368, 1, []⟩,
   ⟨(some 49), .call 14 [(.t 47), (.t 48)] true, none, 1114624, 2, []⟩,
   ⟨(some 10), .mv (.t 49), none, 1114880, 3, []⟩])
 (.seq (.reg [⟨(some 11), .mv (.k (.int .i64 1)), none, 1179648, 0, []⟩])
 (.seq (.reg [⟨(some 50), .mv (.t 8), none, 1245184, 0, []⟩,
   ⟨(some 51), .mv (.t 11), none, 1245440, 1, []⟩,
   ⟨(some 52), .call 19 [(.t 50), (.t 51)] true, none, 1245696, 2, []⟩,
   ⟨(some 11), .mv (.t 52), none, 1245952, 3, []⟩])
 (.seq (.seq (.reg [⟨(some 53), .mv (.t 11), none, 1310720, 0, []⟩,
   ⟨(some 54), .bin .lss (.t 53) (.k (.int .i64 0)), none, 1310976, 1, []⟩])
 (.cond (.t 54)
  (.seq (.reg [⟨(some 4), .mv (.k (.bool false)), none, 1376256, 0, []⟩])
  (.ret))
  (.skip)))
 (.seq (.seq (.reg [⟨(some 55), .mv (.t 11), none, 1441792, 0, []⟩,
   ⟨(some 56), .mv (.t 10), none, 1442048, 1, []⟩,
   ⟨(some 57), .bin .neq (.t 55) (.t 56), none, 1442304, 2, []⟩])
 (.cond (.t 57)
  (.seq (.reg [⟨(some 4), .mv (.k (.bool false)), none, 1507328, 0, []⟩])
  (.ret))
  (.skip)))
 (.seq (.reg [⟨(some 58), .mv (.t 0), none, 1572864, 0, []⟩,
   ⟨(some 59), .call 10 [(.t 58)] false, none, 1573120, 1, []⟩,
   ⟨(some 60), .mv (.t 1), none, 1573376, 2, []⟩,
   ⟨(some 61), .call 18 [(.t 59), (.t 60)] false, none, 1573632, 3, []⟩,
   ⟨(some 12), .mv (.t 61), none, 1573888, 4, []⟩])
 (.seq (.seq (.reg [⟨(some 62), .mv (.t 12), none, 1638400, 0, []⟩,
   ⟨(some 63), .mv (.t 6), none, 1638656, 1, []⟩,
   ⟨(some 64), .call 13 [(.t 62), (.t 63)] true, none, 1638912, 2, []⟩,
   ⟨(some 65), .not (.t 64), none, 1639168, 3, []⟩])
 (.cond (.t 65)
  (.seq (.reg [⟨(some 4), .mv (.k (.bool false)), none, 1703936, 0, []⟩])
  (.ret))
  (.skip)))
 (.seq (.reg [⟨(some 11), .mv (.k (.int .i64 1)), none, 1769472, 0, []⟩])
 (.seq (.reg [⟨(some 66), .mv (.t 8), none, 1835008, 0, []⟩,
   ⟨(some 67), .mv (.t 11), none, 1835264, 1, []⟩,
   ⟨(some 68), .call 19 [(.t 66), (.t 67)] true, none, 1835520, 2, []⟩,
   ⟨(some 11), .mv (.t 68), none, 1835776, 3, []⟩])
 (.seq (.seq (.reg [⟨(some 69), .mv (.t 11), none, 1900544, 0, []⟩,
   ⟨(some 70), .bin .lss (.t 69) (.k (.int .i64 0)), none, 1900800, 1, []⟩])
 (.cond (.t 70)
  (.seq (.reg [⟨(some 4), .mv (.k (.bool false)), none, 1966080, 0, []⟩])
  (.ret))
  (.skip)))
 (.seq (.seq (.reg [⟨(some 71), .mv (.t 11), none, 2031616, 0, []⟩,
   ⟨(some 72), .mv (.t 10), none, 2031872, 1, []⟩,
   ⟨(some 73), .bin .neq (.t 71) (.t 72), none, 2032128, 2, []⟩])
 (.cond (.t 73)
  (.seq (.reg [⟨(some 4), .mv (.k (.bool false)), none, 2097152, 0, []⟩])
  (.ret))
  (.skip)))
 (.seq (.reg [⟨(some 4), .mv (.k (.bool true)), none, 2162688, 0, []⟩])
 (.ret)))))))))))))))))))))))))⟩
/-- loop.example/g00849/laws.FnExactNeedOf -/
def F5 : F := ⟨2, 74, [.t 4],
 .seq (.reg [⟨(some 4), .mv (.k (.bool false)), none, 0, 0, []⟩])
 (.seq (.reg [⟨(some 5), .mv (.k (.int .i64 1048576)), none, 65536, 0, []⟩])
 (.seq (.reg [⟨(some 13), .mv (.t 0), none, 131072, 0, []⟩,
   ⟨(some 14), .mv (.t 5), none, 131328, 1, []⟩,
   ⟨(some 15), .call 8 [(.t 13), (.t 14)] true, none, 131584, 2, []⟩,
   ⟨(some 5), .mv (.t 15), none, 131840, 3, []⟩])
 (.seq (.seq (.reg [⟨(some 16), .mv (.t 5), none, 196608, 0, []⟩,
   ⟨(some 17), .bin .lss (.t 16) (.k (.int .i64 0)), none, 196864, 1, []⟩])
 (.cond (.t 17)
  (.seq (.reg [⟨(some 4), .mv (.k (.bool true)), none, 262144, 0, []⟩])
  (.ret))
  (.skip)))
 (.seq (.reg [⟨(some 18), .mv (.t 0), none, 327680, 0, []⟩,
   ⟨(some 19), .call 10 [(.t 18)] false, none, 327936, 1, []⟩,
   ⟨(some 20), .mv (.t 1), none, 328192, 2, []⟩,
   ⟨(some 21), .call 20 [(.t 19), (.t 20)] false, none, 328448, 3, []⟩,
   ⟨(some 6), .mv (.t 21), none, 328704, 4, []⟩])
 (.seq (.reg [⟨(some 22), .mv (.t 0), none, 393216, 0, []⟩,
   ⟨(some 23), .call 10 [(.t 22)] false, none, 393472, 1, []⟩,
   ⟨(some 7), .mv (.t 23), none, 393728, 2, []⟩])
 (.seq (.reg [⟨(some 24), .mv (.t 7), none, 458752, 0, []⟩,
   ⟨(some 25), .mv (.t 1), none, 459008, 1, []⟩,
   ⟨(some 26), .call 21 [(.t 24), (.t 25)] false, none, 459264, 2, []⟩,
   ⟨(some 8), .mv (.t 26), none, 459520, 3, []⟩])
 (.seq (.seq (.reg [⟨(some 27), .mv (.t 8), none, 524288, 0, []⟩,
   ⟨(some 28), .mv (.t 6), none, 524544, 1, []⟩,
   ⟨(some 29), .call 13 [(.t 27), (.t 28)] true, none, 524800, 2, []⟩,
   ⟨(some 30), .not (.t 29), none, 525056, 3, []⟩])
 (.cond (.t 30)
  (.seq (.reg [⟨(some 4), .mv (.k (.bool false)), none, 589824, 0, []⟩])
  (.ret))
  (.skip)))
 (.seq (.seq (.reg [⟨(some 31), .mv (.t 7), none, 655360, 0, []⟩,
   ⟨(some 32), .mv (.t 0), none, 655616, 1, []⟩,
   ⟨(some 33), .call 10 [(.t 32)] false, none, 655872, 2, []⟩,
   ⟨(some 34), .call 13 [(.t 31), (.t 33)] true, none, 656128, 3, []⟩,
   ⟨(some 35), .not (.t 34), none, 656384, 4, []⟩])
 (.cond (.t 35)
  (.seq (.reg [⟨(some 4), .mv (.k (.bool false)), none, 720896, 0, []⟩])
  (.ret))
  (.skip)))
 (.seq (.reg [⟨(some 9), .mv (.k (.int .i64 1)), none, 786432, 0, []⟩])
 (.seq (.reg [⟨(some 36), .mv (.t 7), none, 851968, 0, []⟩,
   ⟨(some 37), .mv (.t 9), none, 852224, 1, []⟩,
   ⟨(some 38), .call 14 [(.t 36), (.t 37)] true, none, 852480, 2, []⟩,
   ⟨(some 9), .mv (.t 38), none, 852736, 3, []⟩])
 (.seq (.seq (.reg [⟨(some 39), .mv (.t 9), none, 917504, 0, []⟩,
   ⟨(some 40), .bin .lss (.t 39) (.k (.int .i64 0)), none, 917760, 1, []⟩,
   ⟨(some 41), .mv (.t 40), none, 918016, 2, []⟩,
   ⟨(some 42), .mv (.t 8), (some (some 41, false)), 918272, 3, []⟩,
   ⟨(some 43), .mv (.t 6), (some (some 41, false)), 918528, 4, []⟩,
   ⟨(some 44), .call 13 [(.t 42), (.t 43)] true, (some (some 41, false)), 918784, 5, []⟩,
   ⟨(some 45), .not (.t 44), (some (some 41, false)), 919040, 6, []⟩,
   ⟨(some 46), .pick (.t 41) (.k (.bool true)) (.t 45), none, 919296, 7, []⟩])
 (.cond (.t 46)
  (.seq (.reg [⟨(some 4), .mv (.k (.bool false)), none, 983040, 0, []⟩])
  (.ret))
  (.skip)))
 (.seq (.reg [⟨(some 10), .mv (.k (.int .i64 1)), none, 1048576, 0, []⟩])
 (.seq (.reg [⟨(some 47), .mv (.t 8), none, 1114112, 0, []⟩,
   ⟨(some 48), .mv (.t 10), none, 1114368, 1, []⟩,
   ⟨(some 49), .call 14 [(.t 47), (.t 48)] true, none, 1114624, 2, []⟩,
   ⟨(some 10), .mv (.t 49), none, 1114880, 3, []⟩])
 (.seq (.reg [⟨(some 11), .mv (.k (.int .i64 1)), none, 1179648, 0, []⟩])
 (.seq (.reg [⟨(some 50), .mv (.t 8), none, 1245184, 0, []⟩,
   ⟨(some 51), .mv (.t 11), none, 1245440, 1, []⟩,
   ⟨(some 52), .call 19 [(.t 50), (.t 51)] true, none, 1245696, 2, []⟩,
   ⟨(some 11), .mv (.t 52), none, 1245952, 3, []⟩])
 (.seq (.seq (.reg [⟨(some 53), .mv (.t 11), none, 1310720, 0, []⟩,
   ⟨(some 54), .bin .lss (.t 53) (.k (.int .i64 0)), none, 1310976, 1, []⟩])
 (.cond (.t 54)
  (.seq (.reg [⟨(some 4), .mv (.k (.bool false)), none, 1376256, 0, []⟩])
  (.ret))
  (.skip)))
 (.seq (.seq (.reg [⟨(some 55), .mv (.t 11), none, 1441792, 0, []⟩,
   ⟨(some 56), .mv (.t 10), none, 1442048, 1, []⟩,
   ⟨(some 57), .bin .neq (.t 55) (.t 56), none, 1442304, 2, []⟩])
 (.cond (.t 57)
  (.seq (.reg [⟨(some 4), .mv (.k (.bool false)), none, 1507328, 0, []⟩])
  (.ret))
  (.skip)))
 (.seq (.reg [⟨(some 58), .mv (.t 0), none, 1572864, 0, []⟩,
   ⟨(some 59), .call 10 [(.t 58)] false, none, 1573120, 1, []⟩,
   ⟨(some 60), .mv (.t 1), none, 1573376, 2, []⟩,
   ⟨(some 61), .call 21 [(.t 59), (.t 60)] false, none, 1573632, 3, []⟩,
   ⟨(some 12), .mv (.t 61), none, 1573888, 4, []⟩])
 (.seq (.seq (.reg [⟨(some 62), .mv (.t 12), none, 1638400, 0, []⟩,
   ⟨(some 63), .mv (.t 6), none, 1638656, 1, []⟩,
   ⟨(some 64), .call 13 [(.t 62), (.t 63)] true, none, 1638912, 2, []⟩,
   ⟨(some 65), .not (.t 64), none, 1639168, 3, []⟩])
 (.cond (.t 65)
  (.seq (.reg [⟨(some 4), .mv (.k (.bool false)), none, 1703936, 0, []⟩])
  (.ret))
  (.skip)))
 (.seq (.reg [⟨(some 11), .mv (.k (.int .i64 1)), none, 1769472, 0, []⟩])
 (.seq (.reg [⟨(some 66), .mv (.t 8), none, 1835008, 0, []⟩,
   ⟨(some 67), .mv (.t 11), none, 1835264, 1, []⟩,
   ⟨(some 68), .call 19 [(.t 66), (.t 67)] true, none, 1835520, 2, []⟩,
   ⟨(some 11), .mv (.t 68), none, 1835776, 3, []⟩])
 (.seq (.seq (.reg [⟨(some 69), .mv (.t 11), none, 1900544, 0, []⟩,
   ⟨(some 70), .bin .lss (.t 69) (.k (.int .i64 0)), none, 1900800, 1, []⟩])
 (.cond (.t 70)
  (.seq (.reg [⟨(some 4), .mv (.k (.bool false)), none, 1966080, 0, []⟩])
  (.ret))
  (.skip)))
 (.seq (.seq (.reg [⟨(some 71), .mv (.t 11), none, 2031616, 0, []⟩,
   ⟨(some 72), .mv (.t 10), none, 2031872, 1, []⟩,
   ⟨(some 73), .bin .neq (.t 71) (.t 72), none, 2032128, 2, []⟩])
 (.cond (.t 73)
  (.seq (.reg [⟨(some 4), .mv (.k (.bool false)), none, 2097152, 0, []⟩])
  (.ret))
  (.skip)))
 (.seq (.reg [⟨(some 4), .mv (.k (.bool true)), none, 2162688, 0, []⟩])
 (.ret)))))))))))))))))))))))))⟩
/-- loop.example/g00849/laws.szIntervalS -/
def F8 : F := ⟨2, 27, [.t 4],
 .seq (.reg [⟨(some 4), .mv (.k (.int .i64 0)), none, 0, 0, []⟩])
 (.seq (.reg [⟨(some 6), .mv (.t 1), none, 65536, 0, []⟩,
   ⟨(some 7), .mv (.t 0), none, 65792, 1, []⟩,
   ⟨(some 8), .len false (.t 7), none, 66048, 2, []⟩,
   ⟨(some 9), .bin .sub (.t 6) (.t 8), none, 66304, 3, []⟩,
   ⟨(some 1), .mv (.t 9), none, 66560, 4, []⟩])
 (.seq (.seq (.reg [⟨(some 10), .mv (.t 1), none, 131072, 0, []⟩,
   ⟨(some 11), .bin .lss (.t 10) (.k (.int .i64 0)), none, 131328, 1, []⟩])
 (.cond (.t 11)
  (.seq (.reg [⟨(some 4), .mv (.k (.int .i64 (-1))), none, 196608, 0, []⟩])
  (.ret))
  (.skip)))
 (.seq (.seq (.reg [⟨(some 5), .mv (.k (.int .i64 0)), none, 262144, 0, []⟩])
 (.block 0 (.loop [0, 1, 5] []
  (.seq (.seq (.reg [⟨(some 12), .mv (.t 5), none, 327680, 0, []⟩,
    ⟨(some 13), .mv (.t 0), none, 327936, 1, []⟩,
    ⟨(some 14), .len false (.t 13), none, 328192, 2, []⟩,
    ⟨(some 15), .bin .lss (.t 12) (.t 14), none, 328448, 3, []⟩])
  (.cond (.t 15)
   (.skip)
   (.exit 0)))
  (.seq (.block 1 (.seq (.reg [⟨(some 18), .mv (.t 0), none, 458752, 0, []⟩,
    ⟨(some 19), .mv (.t 5), none, 459008, 1, []⟩,
    ⟨(some 20), .iaddr 4 (.t 18) (.t 19), none, 459264, 2, []⟩,
    ⟨(some 21), .load 4 true (.t 20), none, 459520, 3, []⟩,
    ⟨(some 22), .mv (.t 1), none, 459776, 4, []⟩,
    ⟨(some 23), .call 37 [(.t 21), (.t 22)] true, none, 460032, 5, []⟩,
    ⟨(some 1), .mv (.t 23), none, 460288, 6, []⟩])
  (.seq (.reg [⟨(some 24), .mv (.t 1), none, 524288, 0, []⟩,
    ⟨(some 25), .bin .lss (.t 24) (.k (.int .i64 0)), none, 524544, 1, []⟩])
  (.cond (.t 25)
   (.seq (.reg [⟨(some 4), .mv (.k (.int .i64 (-1))), none, 589824, 0, []⟩])
   (.ret))
   (.skip)))))
  (.reg [⟨(some 16), .mv (.t 5), none, 393216, 0, []⟩,
    ⟨(some 17), .bin .add (.t 16) (.k (.int .i64 1)), none, 393472, 1, []⟩,
    ⟨(some 5), .mv (.t 17), none, 393728, 2, []⟩]))))))
 (.seq (.reg [⟨(some 26), .mv (.t 1), none, 655360, 0, []⟩,
   ⟨(some 4), .mv (.t 26), none, 655616, 1, []⟩])
 (.ret)))))⟩
/-- loop.example/g00849/spec.IntervalAt -/
def F9 : F := ⟨2, 39, [.cell 4 4 true, .t 5],
 .seq (.reg [⟨(some 4), .alloc [(.int .i64 0), (.int .i64 0), (.nil true 1), (.bool false)], none, 0, 0, []⟩,
   ⟨(some 5), .mv (.k (.bool false)), none, 256, 1, []⟩])
 (.seq (.seq (.reg [⟨(some 7), .mv (.t 0), none, 65536, 0, []⟩,
   ⟨(some 8), .call 38 [(.t 7)] true, none, 65792, 1, []⟩,
   ⟨(some 9), .not (.t 8), none, 66048, 2, []⟩])
 (.cond (.t 9)
  (.seq (.reg [⟨(some 10), .build [(.int .i64 0), (.int .i64 0), (.nil true 1), (.bool false)] [], none, 131072, 0, []⟩,
    ⟨none, .store 4 (.t 4) (.t 10), none, 131328, 1, []⟩,
    ⟨(some 5), .mv (.k (.bool false)), none, 131584, 2, []⟩])
  (.ret))
  (.skip)))
 (.seq (.seq (.reg [⟨(some 6), .mv (.k (.int .i64 0)), none, 196608, 0, []⟩])
 (.block 0 (.loop [0, 1, 4, 6] [0, 3, 131329, 131330, 131331, 131332, 524545, 524546, 524547, 524548]
  (.seq (.seq (.reg [⟨(some 11), .mv (.t 6), none, 262144, 0, []⟩,
    ⟨(some 12), .mv (.t 0), none, 262400, 1, []⟩,
    ⟨(some 13), .len false (.t 12), none, 262656, 2, []⟩,
    ⟨(some 14), .bin .lss (.t 11) (.t 13), none, 262912, 3, []⟩])
  (.cond (.t 14)
   (.skip)
   (.exit 0)))
  (.seq (.block 1 (.seq (.reg [⟨(some 17), .mv (.t 0), none, 393216, 0, []⟩,
    ⟨(some 18), .mv (.t 6), none, 393472, 1, []⟩,
    ⟨(some 19), .iaddr 4 (.t 17) (.t 18), none, 393728, 2, []⟩,
    ⟨(some 20), .faddr 0 (.t 19), none, 393984, 3, []⟩,
    ⟨(some 21), .load 1 false (.t 20), none, 394240, 4, []⟩,
    ⟨(some 22), .mv (.t 1), none, 394496, 5, []⟩,
    ⟨(some 23), .bin .leq (.t 21) (.t 22), none, 394752, 6, []⟩,
    ⟨(some 24), .mv (.t 23), none, 395008, 7, []⟩,
    ⟨(some 25), .mv (.t 1), (some (some 24, true)), 395264, 8, []⟩,
    ⟨(some 26), .mv (.t 0), (some (some 24, true)), 395520, 9, []⟩,
    ⟨(some 27), .mv (.t 6), (some (some 24, true)), 395776, 10, []⟩,
    ⟨(some 28), .iaddr 4 (.t 26) (.t 27), (some (some 24, true)), 396032, 11, []⟩,
    ⟨(some 29), .faddr 1 (.t 28), (some (some 24, true)), 396288, 12, []⟩,
    ⟨(some 30), .load 1 false (.t 29), (some (some 24, true)), 396544, 13, []⟩,
    ⟨(some 31), .bin .leq (.t 25) (.t 30), (some (some 24, true)), 396800, 14, []⟩,
    ⟨(some 32), .pick (.t 24) (.t 31) (.k (.bool false)), none, 397056, 15, []⟩])
  (.cond (.t 32)
   (.seq (.reg [⟨(some 33), .mv (.t 0), none, 458752, 0, []⟩,
     ⟨(some 34), .mv (.t 6), none, 459008, 1, []⟩,
     ⟨(some 35), .iaddr 4 (.t 33) (.t 34), none, 459264, 2, []⟩,
     ⟨(some 36), .load 4 true (.t 35), none, 459520, 3, []⟩,
     ⟨(some 37), .call 39 [(.t 36)] false, none, 459776, 4, []⟩,
     ⟨none, .store 4 (.t 4) (.t 37), none, 460032, 5, []⟩,
     ⟨(some 5), .mv (.k (.bool true)), none, 460288, 6, []⟩])
   (.ret))
   (.skip))))
  (.reg [⟨(some 15), .mv (.t 6), none, 327680, 0, []⟩,
    ⟨(some 16), .bin .add (.t 15) (.k (.int .i64 1)), none, 327936, 1, []⟩,
    ⟨(some 6), .mv (.t 16), none, 328192, 2, []⟩]))))))
 (.seq (.reg [⟨(some 38), .build [(.int .i64 0), (.int .i64 0), (.nil true 1), (.bool false)] [], none, 524288, 0, []⟩,
   ⟨none, .store 4 (.t 4) (.t 38), none, 524544, 1, []⟩,
   ⟨(some 5), .mv (.k (.bool false)), none, 524800, 2, []⟩])
 (.ret))))⟩
/-- loop.example/g00849/laws.toIntervalS -/
def F10 : F := ⟨1, 23, [.t 2],
 .seq (.reg [⟨(some 2), .nil0 false 4, none, 0, 0, []⟩])
 (.seq (.reg [⟨(some 5), .mv (.t 0), none, 65536, 0, []⟩,
   ⟨(some 6), .len false (.t 5), none, 65792, 1, []⟩,
   ⟨(some 7), .mksl false 4 48 [(.int .i64 0), (.int .i64 0), (.nil true 1), (.bool false)] (.t 6) (.t 6), none, 66048, 2, []⟩,
   ⟨(some 3), .mv (.t 7), none, 66304, 3, []⟩])
 (.seq (.seq (.reg [⟨(some 4), .mv (.k (.int .i64 0)), none, 131072, 0, []⟩])
 (.block 0 (.loop [0, 3, 4] [0, 66048]
  (.seq (.seq (.reg [⟨(some 8), .mv (.t 4), none, 196608, 0, []⟩,
    ⟨(some 9), .mv (.t 0), none, 196864, 1, []⟩,
    ⟨(some 10), .len false (.t 9), none, 197120, 2, []⟩,
    ⟨(some 11), .bin .lss (.t 8) (.t 10), none, 197376, 3, []⟩])
  (.cond (.t 11)
   (.skip)
   (.exit 0)))
  (.seq (.block 1 (.reg [⟨(some 14), .mv (.t 3), none, 327680, 0, []⟩,
    ⟨(some 15), .mv (.t 4), none, 327936, 1, []⟩,
    ⟨(some 16), .mv (.t 0), none, 328192, 2, []⟩,
    ⟨(some 17), .mv (.t 4), none, 328448, 3, []⟩,
    ⟨(some 18), .iaddr 4 (.t 16) (.t 17), none, 328704, 4, []⟩,
    ⟨(some 19), .load 4 true (.t 18), none, 328960, 5, []⟩,
    ⟨(some 20), .call 40 [(.t 19)] false, none, 329216, 6, []⟩,
    ⟨(some 21), .iaddr 4 (.t 14) (.t 15), none, 329472, 7, []⟩,
    ⟨none, .stm 4 (.t 21) (.t 20), none, 329728, 8, []⟩]))
  (.reg [⟨(some 12), .mv (.t 4), none, 262144, 0, []⟩,
    ⟨(some 13), .bin .add (.t 12) (.k (.int .i64 1)), none, 262400, 1, []⟩,
    ⟨(some 4), .mv (.t 13), none, 262656, 2, []⟩]))))))
 (.seq (.reg [⟨(some 22), .mv (.t 3), none, 393216, 0, []⟩,
   ⟨(some 2), .mv (.t 22), none, 393472, 1, []⟩])
 (.ret))))⟩
/-- loop.example/g00849/impl.IntervalAt -/
def F11 : F := ⟨2, 23, [.cell 4 4 true, .t 5],
 .seq (.reg [⟨(some 3), .box (.t 1), none, 0, 0, []⟩,
   ⟨(some 4), .alloc [(.int .i64 0), (.int .i64 0), (.nil true 1), (.bool false)], none, 256, 1, []⟩,
   ⟨(some 5), .mv (.k (.bool false)), none, 512, 2, []⟩])
 (.seq (.reg [⟨(some 7), .mv (.t 0), none, 65536, 0, []⟩,
   ⟨(some 8), .mkf 42 [(.t 3)], none, 65792, 1, []⟩,
   ⟨(some 9), .call 41 [(.t 7), (.t 8)] true, none, 66048, 2, []⟩,
   ⟨(some 6), .mv (.t 9), none, 66304, 3, []⟩])
 (.seq (.seq (.reg [⟨(some 10), .mv (.t 0), none, 131072, 0, []⟩,
   ⟨(some 11), .call 44 [(.t 10)] true, none, 131328, 1, []⟩,
   ⟨(some 12), .not (.t 11), none, 131584, 2, []⟩,
   ⟨(some 13), .mv (.t 12), none, 131840, 3, []⟩,
   ⟨(some 14), .mv (.t 6), (some (some 13, false)), 132096, 4, []⟩,
   ⟨(some 15), .bin .lss (.t 14) (.k (.int .i64 0)), (some (some 13, false)), 132352, 5, []⟩,
   ⟨(some 16), .pick (.t 13) (.k (.bool true)) (.t 15), none, 132608, 6, []⟩])
 (.cond (.t 16)
  (.seq (.reg [⟨(some 17), .build [(.int .i64 0), (.int .i64 0), (.nil true 1), (.bool false)] [], none, 196608, 0, []⟩,
    ⟨none, .store 4 (.t 4) (.t 17), none, 196864, 1, []⟩,
    ⟨(some 5), .mv (.k (.bool false)), none, 197120, 2, []⟩])
  (.ret))
  (.skip)))
 (.seq (.reg [⟨(some 18), .mv (.t 0), none, 262144, 0, []⟩,
   ⟨(some 19), .mv (.t 6), none, 262400, 1, []⟩,
   ⟨(some 20), .iaddr 4 (.t 18) (.t 19), none, 262656, 2, []⟩,
   ⟨(some 21), .load 4 true (.t 20), none, 262912, 3, []⟩,
   ⟨(some 22), .call 45 [(.t 21)] false, none, 263168, 4, []⟩,
   ⟨none, .store 4 (.t 4) (.t 22), none, 263424, 5, []⟩,
   ⟨(some 5), .mv (.k (.bool true)), none, 263680, 6, []⟩])
 (.ret))))⟩
/-- loop.example/g00849/laws.eqInterval -/
def F12 : F := ⟨2, 26, [.t 4],
 .seq (.reg [⟨(some 2), .box (.t 0), none, 0, 0, []⟩,
   ⟨(some 3), .box (.t 1), none, 256, 1, []⟩,
   ⟨(some 4), .mv (.k (.bool false)), none, 512, 2, []⟩])
 (.seq (.seq (.reg [⟨(some 5), .faddr 0 (.t 2), none, 65536, 0, []⟩,
   ⟨(some 6), .load 1 false (.t 5), none, 65792, 1, []⟩,
   ⟨(some 7), .faddr 0 (.t 3), none, 66048, 2, []⟩,
   ⟨(some 8), .load 1 false (.t 7), none, 66304, 3, []⟩,
   ⟨(some 9), .bin .neq (.t 6) (.t 8), none, 66560, 4, []⟩])
 (.cond (.t 9)
  (.seq (.reg [⟨(some 4), .mv (.k (.bool false)), none, 131072, 0, []⟩])
  (.ret))
  (.skip)))
 (.seq (.seq (.reg [⟨(some 10), .faddr 1 (.t 2), none, 196608, 0, []⟩,
   ⟨(some 11), .load 1 false (.t 10), none, 196864, 1, []⟩,
   ⟨(some 12), .faddr 1 (.t 3), none, 197120, 2, []⟩,
   ⟨(some 13), .load 1 false (.t 12), none, 197376, 3, []⟩,
   ⟨(some 14), .bin .neq (.t 11) (.t 13), none, 197632, 4, []⟩])
 (.cond (.t 14)
  (.seq (.reg [⟨(some 4), .mv (.k (.bool false)), none, 262144, 0, []⟩])
  (.ret))
  (.skip)))
 (.seq (.seq (.reg [⟨(some 15), .faddr 2 (.t 2), none, 327680, 0, []⟩,
   ⟨(some 16), .load 1 false (.t 15), none, 327936, 1, []⟩,
   ⟨(some 17), .faddr 2 (.t 3), none, 328192, 2, []⟩,
   ⟨(some 18), .load 1 false (.t 17), none, 328448, 3, []⟩,
   ⟨(some 19), .call 46 [(.t 16), (.t 18)] true, none, 328704, 4, []⟩,
   ⟨(some 20), .not (.t 19), none, 328960, 5, []⟩])
 (.cond (.t 20)
  (.seq (.reg [⟨(some 4), .mv (.k (.bool false)), none, 393216, 0, []⟩])
  (.ret))
  (.skip)))
 (.seq (.seq (.reg [⟨(some 21), .faddr 3 (.t 2), none, 458752, 0, []⟩,
   ⟨(some 22), .load 1 false (.t 21), none, 459008, 1, []⟩,
   ⟨(some 23), .faddr 3 (.t 3), none, 459264, 2, []⟩,
   ⟨(some 24), .load 1 false (.t 23), none, 459520, 3, []⟩,
   ⟨(some 25), .eqv true false [.b] (.t 22) (.t 24), none, 459776, 4, []⟩])
 (.cond (.t 25)
  (.seq (.reg [⟨(some 4), .mv (.k (.bool false)), none, 524288, 0, []⟩])
  (.ret))
  (.skip)))
 (.seq (.reg [⟨(some 4), .mv (.k (.bool true)), none, 589824, 0, []⟩])
 (.ret))))))⟩
/-- loop.example/g00849/laws.eqIntervalS -/
def F13 : F := ⟨2, 27, [.t 4],
 .seq (.reg [⟨(some 4), .mv (.k (.bool false)), none, 0, 0, []⟩])
 (.seq (.seq (.reg [⟨(some 6), .mv (.t 0), none, 65536, 0, []⟩,
   ⟨(some 7), .len false (.t 6), none, 65792, 1, []⟩,
   ⟨(some 8), .mv (.t 1), none, 66048, 2, []⟩,
   ⟨(some 9), .len false (.t 8), none, 66304, 3, []⟩,
   ⟨(some 10), .bin .neq (.t 7) (.t 9), none, 66560, 4, []⟩])
 (.cond (.t 10)
  (.seq (.reg [⟨(some 4), .mv (.k (.bool false)), none, 131072, 0, []⟩])
  (.ret))
  (.skip)))
 (.seq (.seq (.reg [⟨(some 5), .mv (.k (.int .i64 0)), none, 196608, 0, []⟩])
 (.block 0 (.loop [0, 1, 5] []
  (.seq (.seq (.reg [⟨(some 11), .mv (.t 5), none, 262144, 0, []⟩,
    ⟨(some 12), .mv (.t 0), none, 262400, 1, []⟩,
    ⟨(some 13), .len false (.t 12), none, 262656, 2, []⟩,
    ⟨(some 14), .bin .lss (.t 11) (.t 13), none, 262912, 3, []⟩])
  (.cond (.t 14)
   (.skip)
   (.exit 0)))
  (.seq (.block 1 (.seq (.reg [⟨(some 17), .mv (.t 0), none, 393216, 0, []⟩,
    ⟨(some 18), .mv (.t 5), none, 393472, 1, []⟩,
    ⟨(some 19), .iaddr 4 (.t 17) (.t 18), none, 393728, 2, []⟩,
    ⟨(some 20), .load 4 true (.t 19), none, 393984, 3, []⟩,
    ⟨(some 21), .mv (.t 1), none, 394240, 4, []⟩,
    ⟨(some 22), .mv (.t 5), none, 394496, 5, []⟩,
    ⟨(some 23), .iaddr 4 (.t 21) (.t 22), none, 394752, 6, []⟩,
    ⟨(some 24), .load 4 true (.t 23), none, 395008, 7, []⟩,
    ⟨(some 25), .call 12 [(.t 20), (.t 24)] true, none, 395264, 8, []⟩,
    ⟨(some 26), .not (.t 25), none, 395520, 9, []⟩])
  (.cond (.t 26)
   (.seq (.reg [⟨(some 4), .mv (.k (.bool false)), none, 458752, 0, []⟩])
   (.ret))
   (.skip))))
  (.reg [⟨(some 15), .mv (.t 5), none, 327680, 0, []⟩,
    ⟨(some 16), .bin .add (.t 15) (.k (.int .i64 1)), none, 327936, 1, []⟩,
    ⟨(some 5), .mv (.t 16), none, 328192, 2, []⟩]))))))
 (.seq (.reg [⟨(some 4), .mv (.k (.bool true)), none, 524288, 0, []⟩])
 (.ret))))⟩
/-- loop.example/g00849/laws.markIntervalS -/
def F14 : F := ⟨2, 43, [.t 4],
 .seq (.reg [⟨(some 4), .mv (.k (.int .i64 0)), none, 0, 0, []⟩])
 (.seq (.seq (.reg [⟨(some 5), .mv (.k (.int .i64 0)), none, 65536, 0, []⟩])
 (.block 0 (.loop [0, 1, 5] []
  (.seq (.seq (.reg [⟨(some 6), .mv (.t 5), none, 131072, 0, []⟩,
    ⟨(some 7), .mv (.t 0), none, 131328, 1, []⟩,
    ⟨(some 8), .len false (.t 7), none, 131584, 2, []⟩,
    ⟨(some 9), .bin .lss (.t 6) (.t 8), none, 131840, 3, []⟩])
  (.cond (.t 9)
   (.skip)
   (.exit 0)))
  (.seq (.block 1 (.seq (.reg [⟨(some 12), .mv (.t 0), none, 262144, 0, []⟩,
    ⟨(some 13), .mv (.t 5), none, 262400, 1, []⟩,
    ⟨(some 14), .mv (.t 1), none, 262656, 2, []⟩,
    ⟨(some 15), .iaddr 4 (.t 12) (.t 13), none, 262912, 3, []⟩,
    ⟨(some 16), .faddr 0 (.t 15), none, 263168, 4, []⟩,
    ⟨none, .stm 1 (.t 16) (.t 14), none, 263424, 5, []⟩])
  (.seq (.reg [⟨(some 17), .mv (.t 1), none, 327680, 0, []⟩,
    ⟨(some 18), .bin .add (.t 17) (.k (.int .i64 1)), none, 327936, 1, []⟩,
    ⟨(some 1), .mv (.t 18), none, 328192, 2, []⟩])
  (.seq (.reg [⟨(some 19), .mv (.t 0), none, 393216, 0, []⟩,
    ⟨(some 20), .mv (.t 5), none, 393472, 1, []⟩,
    ⟨(some 21), .mv (.t 1), none, 393728, 2, []⟩,
    ⟨(some 22), .iaddr 4 (.t 19) (.t 20), none, 393984, 3, []⟩,
    ⟨(some 23), .faddr 1 (.t 22), none, 394240, 4, []⟩,
    ⟨none, .stm 1 (.t 23) (.t 21), none, 394496, 5, []⟩])
  (.seq (.reg [⟨(some 24), .mv (.t 1), none, 458752, 0, []⟩,
    ⟨(some 25), .bin .add (.t 24) (.k (.int .i64 1)), none, 459008, 1, []⟩,
    ⟨(some 1), .mv (.t 25), none, 459264, 2, []⟩])
  (.seq (.reg [⟨(some 26), .mv (.t 0), none, 524288, 0, []⟩,
    ⟨(some 27), .mv (.t 5), none, 524544, 1, []⟩,
    ⟨(some 28), .iaddr 4 (.t 26) (.t 27), none, 524800, 2, []⟩,
    ⟨(some 29), .faddr 2 (.t 28), none, 525056, 3, []⟩,
    ⟨(some 30), .load 1 false (.t 29), none, 525312, 4, []⟩,
    ⟨(some 31), .mv (.t 1), none, 525568, 5, []⟩,
    ⟨(some 32), .call 47 [(.t 30), (.t 31)] true, none, 525824, 6, []⟩,
    ⟨(some 1), .mv (.t 32), none, 526080, 7, []⟩])
  (.seq (.reg [⟨(some 33), .mv (.t 0), none, 589824, 0, []⟩,
    ⟨(some 34), .mv (.t 5), none, 590080, 1, []⟩,
    ⟨(some 35), .mv (.t 1), none, 590336, 2, []⟩,
    ⟨(some 36), .bin .rem (.t 35) (.k (.int .i64 3)), none, 590592, 3, []⟩,
    ⟨(some 37), .bin .eql (.t 36) (.k (.int .i64 0)), none, 590848, 4, []⟩,
    ⟨(some 38), .iaddr 4 (.t 33) (.t 34), none, 591104, 5, []⟩,
    ⟨(some 39), .faddr 3 (.t 38), none, 591360, 6, []⟩,
    ⟨none, .stm 1 (.t 39) (.t 37), none, 591616, 7, []⟩])
  (.reg [⟨(some 40), .mv (.t 1), none, 655360, 0, []⟩,
    ⟨(some 41), .bin .add (.t 40) (.k (.int .i64 1)), none, 655616, 1, []⟩,
    ⟨(some 1), .mv (.t 41), none, 655872, 2, []⟩]))))))))
  (.reg [⟨(some 10), .mv (.t 5), none, 196608, 0, []⟩,
    ⟨(some 11), .bin .add (.t 10) (.k (.int .i64 1)), none, 196864, 1, []⟩,
    ⟨(some 5), .mv (.t 11), none, 197120, 2, []⟩]))))))
 (.seq (.reg [⟨(some 42), .mv (.t 1), none, 720896, 0, []⟩,
   ⟨(some 4), .mv (.t 42), none, 721152, 1, []⟩])
 (.ret)))⟩
/-- loop.example/g00849/laws.markInterval -/
def F15 : F := ⟨2, 10, [.t 4],
 .seq (.reg [⟨(some 2), .box (.t 0), none, 0, 0, []⟩,
   ⟨(some 4), .mv (.k (.int .i64 0)), none, 256, 1, []⟩])
 (.seq (.reg [⟨(some 5), .faddr 2 (.t 2), none, 65536, 0, []⟩,
   ⟨(some 6), .load 1 false (.t 5), none, 65792, 1, []⟩,
   ⟨(some 7), .mv (.t 1), none, 66048, 2, []⟩,
   ⟨(some 8), .call 47 [(.t 6), (.t 7)] true, none, 66304, 3, []⟩,
   ⟨(some 1), .mv (.t 8), none, 66560, 4, []⟩])
 (.seq (.reg [⟨(some 9), .mv (.t 1), none, 131072, 0, []⟩,
   ⟨(some 4), .mv (.t 9), none, 131328, 1, []⟩])
 (.ret)))⟩
/-- loop.example/g00849/laws.heldInterval -/
def F16 : F := ⟨2, 12, [.t 4],
 .seq (.reg [⟨(some 2), .box (.t 0), none, 0, 0, []⟩,
   ⟨(some 4), .mv (.k (.int .i64 0)), none, 256, 1, []⟩])
 (.seq (.reg [⟨(some 5), .faddr 2 (.t 2), none, 65536, 0, []⟩,
   ⟨(some 6), .load 1 false (.t 5), none, 65792, 1, []⟩,
   ⟨(some 7), .mv (.t 1), none, 66048, 2, []⟩,
   ⟨(some 8), .call 48 [(.t 6), (.t 7)] true, none, 66304, 3, []⟩,
   ⟨(some 1), .mv (.t 8), none, 66560, 4, []⟩])
 (.seq (.seq (.reg [⟨(some 9), .mv (.t 1), none, 131072, 0, []⟩,
   ⟨(some 10), .bin .lss (.t 9) (.k (.int .i64 0)), none, 131328, 1, []⟩])
 (.cond (.t 10)
  (.seq (.reg [⟨(some 4), .mv (.k (.int .i64 (-1))), none, 196608, 0, []⟩])
  (.ret))
  (.skip)))
 (.seq (.reg [⟨(some 11), .mv (.t 1), none, 262144, 0, []⟩,
   ⟨(some 4), .mv (.t 11), none, 262400, 1, []⟩])
 (.ret))))⟩
/-- loop.example/g00849/spec.AheadOf -/
def F17 : F := ⟨2, 12, [.t 4],
 .seq (.reg [⟨(some 4), .nil0 false 4, none, 0, 0, []⟩])
 (.seq (.seq (.reg [⟨(some 5), .mv (.t 0), none, 65536, 0, []⟩,
   ⟨(some 6), .call 38 [(.t 5)] true, none, 65792, 1, []⟩,
   ⟨(some 7), .not (.t 6), none, 66048, 2, []⟩])
 (.cond (.t 7)
  (.seq (.reg [⟨(some 8), .bslice false 4 [(.int .i64 0), (.int .i64 0), (.nil true 1), (.bool false)] 0 [], none, 131072, 0, []⟩,
    ⟨(some 4), .mv (.t 8), none, 131328, 1, []⟩])
  (.ret))
  (.skip)))
 (.seq (.reg [⟨(some 9), .mv (.t 0), none, 196608, 0, []⟩,
   ⟨(some 10), .mv (.t 1), none, 196864, 1, []⟩,
   ⟨(some 11), .call 49 [(.t 9), (.t 10)] false, none, 197120, 2, []⟩,
   ⟨(some 4), .mv (.t 11), none, 197376, 3, []⟩])
 (.ret)))⟩
/-- loop.example/g00849/impl.AheadOf -/
def F18 : F := ⟨2, 11, [.t 4],
 .seq (.reg [⟨(some 3), .box (.t 1), none, 0, 0, []⟩,
   ⟨(some 4), .nil0 false 4, none, 256, 1, []⟩])
 (.seq (.seq (.reg [⟨(some 5), .mv (.t 0), none, 65536, 0, []⟩,
   ⟨(some 6), .call 44 [(.t 5)] true, none, 65792, 1, []⟩,
   ⟨(some 7), .not (.t 6), none, 66048, 2, []⟩])
 (.cond (.t 7)
  (.seq (.reg [⟨(some 4), .nil0 false 4, none, 131072, 0, []⟩])
  (.ret))
  (.skip)))
 (.seq (.reg [⟨(some 8), .mv (.t 0), none, 196608, 0, []⟩,
   ⟨(some 9), .mkf 51 [(.t 3)], none, 196864, 1, []⟩,
   ⟨(some 10), .call 50 [(.t 8), (.t 9)] false, none, 197120, 2, []⟩,
   ⟨(some 4), .mv (.t 10), none, 197376, 3, []⟩])
 (.ret)))⟩
/-- loop.example/g00849/laws.heldIntervalS -/
def F19 : F := ⟨2, 51, [.t 4],
 .seq (.reg [⟨(some 4), .mv (.k (.int .i64 0)), none, 0, 0, []⟩])
 (.seq (.seq (.reg [⟨(some 5), .mv (.k (.int .i64 0)), none, 65536, 0, []⟩])
 (.block 0 (.loop [0, 1, 5] []
  (.seq (.seq (.reg [⟨(some 6), .mv (.t 5), none, 131072, 0, []⟩,
    ⟨(some 7), .mv (.t 0), none, 131328, 1, []⟩,
    ⟨(some 8), .len false (.t 7), none, 131584, 2, []⟩,
    ⟨(some 9), .bin .lss (.t 6) (.t 8), none, 131840, 3, []⟩])
  (.cond (.t 9)
   (.skip)
   (.exit 0)))
  (.seq (.block 1 (.seq (.seq (.reg [⟨(some 12), .mv (.t 0), none, 262144, 0, []⟩,
    ⟨(some 13), .mv (.t 5), none, 262400, 1, []⟩,
    ⟨(some 14), .iaddr 4 (.t 12) (.t 13), none, 262656, 2, []⟩,
    ⟨(some 15), .faddr 0 (.t 14), none, 262912, 3, []⟩,
    ⟨(some 16), .load 1 false (.t 15), none, 263168, 4, []⟩,
    ⟨(some 17), .mv (.t 1), none, 263424, 5, []⟩,
    ⟨(some 18), .bin .neq (.t 16) (.t 17), none, 263680, 6, []⟩])
  (.cond (.t 18)
   (.seq (.reg [⟨(some 4), .mv (.k (.int .i64 (-1))), none, 327680, 0, []⟩])
   (.ret))
   (.skip)))
  (.seq (.reg [⟨(some 19), .mv (.t 1), none, 393216, 0, []⟩,
    ⟨(some 20), .bin .add (.t 19) (.k (.int .i64 1)), none, 393472, 1, []⟩,
    ⟨(some 1), .mv (.t 20), none, 393728, 2, []⟩])
  (.seq (.seq (.reg [⟨(some 21), .mv (.t 0), none, 458752, 0, []⟩,
    ⟨(some 22), .mv (.t 5), none, 459008, 1, []⟩,
    ⟨(some 23), .iaddr 4 (.t 21) (.t 22), none, 459264, 2, []⟩,
    ⟨(some 24), .faddr 1 (.t 23), none, 459520, 3, []⟩,
    ⟨(some 25), .load 1 false (.t 24), none, 459776, 4, []⟩,
    ⟨(some 26), .mv (.t 1), none, 460032, 5, []⟩,
    ⟨(some 27), .bin .neq (.t 25) (.t 26), none, 460288, 6, []⟩])
  (.cond (.t 27)
   (.seq (.reg [⟨(some 4), .mv (.k (.int .i64 (-1))), none, 524288, 0, []⟩])
   (.ret))
   (.skip)))
  (.seq (.reg [⟨(some 28), .mv (.t 1), none, 589824, 0, []⟩,
    ⟨(some 29), .bin .add (.t 28) (.k (.int .i64 1)), none, 590080, 1, []⟩,
    ⟨(some 1), .mv (.t 29), none, 590336, 2, []⟩])
  (.seq (.reg [⟨(some 30), .mv (.t 0), none, 655360, 0, []⟩,
    ⟨(some 31), .mv (.t 5), none, 655616, 1, []⟩,
    ⟨(some 32), .iaddr 4 (.t 30) (.t 31), none, 655872, 2, []⟩,
    ⟨(some 33), .faddr 2 (.t 32), none, 656128, 3, []⟩,
    ⟨(some 34), .load 1 false (.t 33), none, 656384, 4, []⟩,
    ⟨(some 35), .mv (.t 1), none, 656640, 5, []⟩,
    ⟨(some 36), .call 48 [(.t 34), (.t 35)] true, none, 656896, 6, []⟩,
    ⟨(some 1), .mv (.t 36), none, 657152, 7, []⟩])
  (.seq (.seq (.reg [⟨(some 37), .mv (.t 1), none, 720896, 0, []⟩,
    ⟨(some 38), .bin .lss (.t 37) (.k (.int .i64 0)), none, 721152, 1, []⟩])
  (.cond (.t 38)
   (.seq (.reg [⟨(some 4), .mv (.k (.int .i64 (-1))), none, 786432, 0, []⟩])
   (.ret))
   (.skip)))
  (.seq (.seq (.reg [⟨(some 39), .mv (.t 0), none, 851968, 0, []⟩,
    ⟨(some 40), .mv (.t 5), none, 852224, 1, []⟩,
    ⟨(some 41), .iaddr 4 (.t 39) (.t 40), none, 852480, 2, []⟩,
    ⟨(some 42), .faddr 3 (.t 41), none, 852736, 3, []⟩,
    ⟨(some 43), .load 1 false (.t 42), none, 852992, 4, []⟩,
    ⟨(some 44), .mv (.t 1), none, 853248, 5, []⟩,
    ⟨(some 45), .bin .rem (.t 44) (.k (.int .i64 3)), none, 853504, 6, []⟩,
    ⟨(some 46), .bin .eql (.t 45) (.k (.int .i64 0)), none, 853760, 7, []⟩,
    ⟨(some 47), .eqv true false [.b] (.t 43) (.t 46), none, 854016, 8, []⟩])
  (.cond (.t 47)
   (.seq (.reg [⟨(some 4), .mv (.k (.int .i64 (-1))), none, 917504, 0, []⟩])
   (.ret))
   (.skip)))
  (.reg [⟨(some 48), .mv (.t 1), none, 983040, 0, []⟩,
    ⟨(some 49), .bin .add (.t 48) (.k (.int .i64 1)), none, 983296, 1, []⟩,
    ⟨(some 1), .mv (.t 49), none, 983552, 2, []⟩])))))))))
  (.reg [⟨(some 10), .mv (.t 5), none, 196608, 0, []⟩,
    ⟨(some 11), .bin .add (.t 10) (.k (.int .i64 1)), none, 196864, 1, []⟩,
    ⟨(some 5), .mv (.t 11), none, 197120, 2, []⟩]))))))
 (.seq (.reg [⟨(some 50), .mv (.t 1), none, 1048576, 0, []⟩,
   ⟨(some 4), .mv (.t 50), none, 1048832, 1, []⟩])
 (.ret)))⟩
/-- loop.example/g00849/spec.NeedOf -/
def F20 : F := ⟨2, 12, [.t 4],
 .seq (.reg [⟨(some 4), .nil0 false 4, none, 0, 0, []⟩])
 (.seq (.seq (.reg [⟨(some 5), .mv (.t 0), none, 65536, 0, []⟩,
   ⟨(some 6), .call 38 [(.t 5)] true, none, 65792, 1, []⟩,
   ⟨(some 7), .not (.t 6), none, 66048, 2, []⟩])
 (.cond (.t 7)
  (.seq (.reg [⟨(some 8), .bslice false 4 [(.int .i64 0), (.int .i64 0), (.nil true 1), (.bool false)] 0 [], none, 131072, 0, []⟩,
    ⟨(some 4), .mv (.t 8), none, 131328, 1, []⟩])
  (.ret))
  (.skip)))
 (.seq (.reg [⟨(some 9), .mv (.t 0), none, 196608, 0, []⟩,
   ⟨(some 10), .mv (.t 1), none, 196864, 1, []⟩,
   ⟨(some 11), .call 52 [(.t 9), (.t 10)] false, none, 197120, 2, []⟩,
   ⟨(some 4), .mv (.t 11), none, 197376, 3, []⟩])
 (.ret)))⟩
/-- loop.example/g00849/impl.NeedOf -/
def F21 : F := ⟨2, 11, [.t 4],
 .seq (.reg [⟨(some 3), .box (.t 1), none, 0, 0, []⟩,
   ⟨(some 4), .nil0 false 4, none, 256, 1, []⟩])
 (.seq (.seq (.reg [⟨(some 5), .mv (.t 0), none, 65536, 0, []⟩,
   ⟨(some 6), .call 44 [(.t 5)] true, none, 65792, 1, []⟩,
   ⟨(some 7), .not (.t 6), none, 66048, 2, []⟩])
 (.cond (.t 7)
  (.seq (.reg [⟨(some 4), .nil0 false 4, none, 131072, 0, []⟩])
  (.ret))
  (.skip)))
 (.seq (.reg [⟨(some 8), .mv (.t 0), none, 196608, 0, []⟩,
   ⟨(some 9), .mkf 53 [(.t 3)], none, 196864, 1, []⟩,
   ⟨(some 10), .call 50 [(.t 8), (.t 9)] false, none, 197120, 2, []⟩,
   ⟨(some 4), .mv (.t 10), none, 197376, 3, []⟩])
 (.ret)))⟩
/-- loop.example/g00849/laws.szInterval -/
def F37 : F := ⟨2, 12, [.t 4],
 .seq (.reg [⟨(some 2), .box (.t 0), none, 0, 0, []⟩,
   ⟨(some 4), .mv (.k (.int .i64 0)), none, 256, 1, []⟩])
 (.seq (.reg [⟨(some 5), .faddr 2 (.t 2), none, 65536, 0, []⟩,
   ⟨(some 6), .load 1 false (.t 5), none, 65792, 1, []⟩,
   ⟨(some 7), .mv (.t 1), none, 66048, 2, []⟩,
   ⟨(some 8), .call 80 [(.t 6), (.t 7)] true, none, 66304, 3, []⟩,
   ⟨(some 1), .mv (.t 8), none, 66560, 4, []⟩])
 (.seq (.seq (.reg [⟨(some 9), .mv (.t 1), none, 131072, 0, []⟩,
   ⟨(some 10), .bin .lss (.t 9) (.k (.int .i64 0)), none, 131328, 1, []⟩])
 (.cond (.t 10)
  (.seq (.reg [⟨(some 4), .mv (.k (.int .i64 (-1))), none, 196608, 0, []⟩])
  (.ret))
  (.skip)))
 (.seq (.reg [⟨(some 11), .mv (.t 1), none, 262144, 0, []⟩,
   ⟨(some 4), .mv (.t 11), none, 262400, 1, []⟩])
 (.ret))))⟩
/-- loop.example/g00849/spec.l13Ok -/
def F38 : F := ⟨1, 51, [.t 2],
 .seq (.reg [⟨(some 2), .mv (.k (.bool false)), none, 0, 0, []⟩])
 (.seq (.seq (.reg [⟨(some 6), .mv (.t 0), none, 65536, 0, []⟩,
   ⟨(some 7), .len false (.t 6), none, 65792, 1, []⟩,
   ⟨(some 8), .bin .gtr (.t 7) (.k (.int .i64 60)), none, 66048, 2, []⟩])
 (.cond (.t 8)
  (.seq (.reg [⟨(some 2), .mv (.k (.bool false)), none, 131072, 0, []⟩])
  (.ret))
  (.skip)))
 (.seq (.reg [⟨(some 3), .mv (.k (.int .i64 1)), none, 196608, 0, []⟩])
 (.seq (.seq (.reg [⟨(some 4), .mv (.k (.int .i64 0)), none, 262144, 0, []⟩])
 (.block 0 (.loop [0, 3, 4] []
  (.seq (.seq (.reg [⟨(some 9), .mv (.t 4), none, 327680, 0, []⟩,
    ⟨(some 10), .mv (.t 0), none, 327936, 1, []⟩,
    ⟨(some 11), .len false (.t 10), none, 328192, 2, []⟩,
    ⟨(some 12), .bin .lss (.t 9) (.t 11), none, 328448, 3, []⟩])
  (.cond (.t 12)
   (.skip)
   (.exit 0)))
  (.seq (.block 1 (.seq (.reg [⟨(some 15), .mv (.t 0), none, 458752, 0, []⟩,
    ⟨(some 16), .mv (.t 4), none, 459008, 1, []⟩,
    ⟨(some 17), .iaddr 4 (.t 15) (.t 16), none, 459264, 2, []⟩,
    ⟨(some 18), .load 4 true (.t 17), none, 459520, 3, []⟩,
    ⟨(some 5), .alloc [(.int .i64 0), (.int .i64 0), (.nil true 1), (.bool false)], none, 459776, 4, []⟩,
    ⟨none, .store 4 (.t 5) (.t 18), none, 460032, 5, []⟩])
  (.seq (.seq (.reg [⟨(some 19), .faddr 0 (.t 5), none, 524288, 0, []⟩,
    ⟨(some 20), .load 1 false (.t 19), none, 524544, 1, []⟩,
    ⟨(some 21), .mv (.t 3), none, 524800, 2, []⟩,
    ⟨(some 22), .bin .neq (.t 20) (.t 21), none, 525056, 3, []⟩,
    ⟨(some 23), .mv (.t 22), none, 525312, 4, []⟩,
    ⟨(some 24), .faddr 1 (.t 5), (some (some 23, false)), 525568, 5, []⟩,
    ⟨(some 25), .load 1 false (.t 24), (some (some 23, false)), 525824, 6, []⟩,
    ⟨(some 26), .faddr 0 (.t 5), (some (some 23, false)), 526080, 7, []⟩,
    ⟨(some 27), .load 1 false (.t 26), (some (some 23, false)), 526336, 8, []⟩,
    ⟨(some 28), .call 58 [(.t 25), (.t 27), (.k (.int .i64 60))] true, (some (some 23, false)), 526592, 9, []⟩,
    ⟨(some 29), .not (.t 28), (some (some 23, false)), 526848, 10, []⟩,
    ⟨(some 30), .pick (.t 23) (.k (.bool true)) (.t 29), none, 527104, 11, []⟩,
    ⟨(some 31), .mv (.t 30), none, 527360, 12, []⟩,
    ⟨(some 32), .faddr 2 (.t 5), (some (some 31, false)), 527616, 13, []⟩,
    ⟨(some 33), .load 1 false (.t 32), (some (some 31, false)), 527872, 14, []⟩,
    ⟨(some 34), .call 81 [(.t 33)] true, (some (some 31, false)), 528128, 15, []⟩,
    ⟨(some 35), .not (.t 34), (some (some 31, false)), 528384, 16, []⟩,
    ⟨(some 36), .pick (.t 31) (.k (.bool true)) (.t 35), none, 528640, 17, []⟩,
    ⟨(some 37), .mv (.t 36), none, 528896, 18, []⟩,
    ⟨(some 38), .faddr 2 (.t 5), (some (some 37, false)), 529152, 19, []⟩,
    ⟨(some 39), .load 1 false (.t 38), (some (some 37, false)), 529408, 20, []⟩,
    ⟨(some 40), .len false (.t 39), (some (some 37, false)), 529664, 21, []⟩,
    ⟨(some 41), .mv (.t 0), (some (some 37, false)), 529920, 22, []⟩,
    ⟨(some 42), .iaddr 4 (.t 41) (.k (.int .i64 0)), (some (some 37, false)), 530176, 23, []⟩,
    ⟨(some 43), .faddr 2 (.t 42), (some (some 37, false)), 530432, 24, []⟩,
    ⟨(some 44), .load 1 false (.t 43), (some (some 37, false)), 530688, 25, []⟩,
    ⟨(some 45), .len false (.t 44), (some (some 37, false)), 530944, 26, []⟩,
    ⟨(some 46), .bin .neq (.t 40) (.t 45), (some (some 37, false)), 531200, 27, []⟩,
    ⟨(some 47), .pick (.t 37) (.k (.bool true)) (.t 46), none, 531456, 28, []⟩])
  (.cond (.t 47)
   (.seq (.reg [⟨(some 2), .mv (.k (.bool false)), none, 589824, 0, []⟩])
   (.ret))
   (.skip)))
  (.reg [⟨(some 48), .faddr 1 (.t 5), none, 655360, 0, []⟩,
    ⟨(some 49), .load 1 false (.t 48), none, 655616, 1, []⟩,
    ⟨(some 50), .bin .add (.t 49) (.k (.int .i64 1)), none, 655872, 2, []⟩,
    ⟨(some 3), .mv (.t 50), none, 656128, 3, []⟩]))))
  (.reg [⟨(some 13), .mv (.t 4), none, 393216, 0, []⟩,
    ⟨(some 14), .bin .add (.t 13) (.k (.int .i64 1)), none, 393472, 1, []⟩,
    ⟨(some 4), .mv (.t 14), none, 393728, 2, []⟩]))))))
 (.seq (.reg [⟨(some 2), .mv (.k (.bool true)), none, 720896, 0, []⟩])
 (.ret)))))⟩
/-- loop.example/g00849/spec.l13Own -/
def F39 : F := ⟨1, 8, [.cell 2 4 true],
 .seq (.reg [⟨(some 1), .box (.t 0), none, 0, 0, []⟩,
   ⟨(some 2), .alloc [(.int .i64 0), (.int .i64 0), (.nil true 1), (.bool false)], none, 256, 1, []⟩])
 (.seq (.reg [⟨(some 3), .faddr 2 (.t 1), none, 65536, 0, []⟩,
   ⟨(some 4), .load 1 false (.t 3), none, 65792, 1, []⟩,
   ⟨(some 5), .call 82 [(.t 4)] false, none, 66048, 2, []⟩,
   ⟨(some 6), .faddr 2 (.t 1), none, 66304, 3, []⟩,
   ⟨none, .store 1 (.t 6) (.t 5), none, 66560, 4, []⟩])
 (.seq (.reg [⟨(some 7), .load 4 true (.t 1), none, 131072, 0, []⟩,
   ⟨none, .store 4 (.t 2) (.t 7), none, 131328, 1, []⟩])
 (.ret)))⟩
/-- loop.example/g00849/laws.toInterval -/
def F40 : F := ⟨1, 18, [.cell 2 4 true],
 .seq (.reg [⟨(some 1), .box (.t 0), none, 0, 0, []⟩,
   ⟨(some 2), .alloc [(.int .i64 0), (.int .i64 0), (.nil true 1), (.bool false)], none, 256, 1, []⟩])
 (.seq (.reg [⟨(some 3), .alloc [(.int .i64 0), (.int .i64 0), (.nil true 1), (.bool false)], none, 65536, 0, []⟩])
 (.seq (.reg [⟨(some 4), .faddr 0 (.t 1), none, 131072, 0, []⟩,
   ⟨(some 5), .load 1 false (.t 4), none, 131328, 1, []⟩,
   ⟨(some 6), .faddr 0 (.t 3), none, 131584, 2, []⟩,
   ⟨none, .stm 1 (.t 6) (.t 5), none, 131840, 3, []⟩])
 (.seq (.reg [⟨(some 7), .faddr 1 (.t 1), none, 196608, 0, []⟩,
   ⟨(some 8), .load 1 false (.t 7), none, 196864, 1, []⟩,
   ⟨(some 9), .faddr 1 (.t 3), none, 197120, 2, []⟩,
   ⟨none, .stm 1 (.t 9) (.t 8), none, 197376, 3, []⟩])
 (.seq (.reg [⟨(some 10), .faddr 2 (.t 1), none, 262144, 0, []⟩,
   ⟨(some 11), .load 1 false (.t 10), none, 262400, 1, []⟩,
   ⟨(some 12), .call 83 [(.t 11)] false, none, 262656, 2, []⟩,
   ⟨(some 13), .faddr 2 (.t 3), none, 262912, 3, []⟩,
   ⟨none, .stm 1 (.t 13) (.t 12), none, 263168, 4, []⟩])
 (.seq (.reg [⟨(some 14), .faddr 3 (.t 1), none, 327680, 0, []⟩,
   ⟨(some 15), .load 1 false (.t 14), none, 327936, 1, []⟩,
   ⟨(some 16), .faddr 3 (.t 3), none, 328192, 2, []⟩,
   ⟨none, .stm 1 (.t 16) (.t 15), none, 328448, 3, []⟩])
 (.seq (.reg [⟨(some 17), .load 4 true (.t 3), none, 393216, 0, []⟩,
   ⟨none, .stm 4 (.t 2) (.t 17), none, 393472, 1, []⟩])
 (.ret)))))))⟩
/-- slices.IndexFunc[[]loop.example/g00849/impl.Interval,loop.example/g00849/impl.Interval] -/
def F41 : F := ⟨2, 19, [.t 4],
 .seq (.reg [⟨(some 4), .mv (.k (.int .i64 0)), none, 0, 0, []⟩])
 (.seq (.seq (.reg [⟨(some 6), .mv (.t 0), none, 65536, 0, []⟩,
   ⟨(some 7), .len false (.t 6), none, 65792, 1, []⟩,
   ⟨(some 8), .mv (.k (.int .i64 0)), none, 66048, 2, []⟩])
 (.block 0 (.loop [0, 1, 7, 8] []
  (.seq (.reg [⟨(some 9), .bin .lss (.t 8) (.t 7), none, 131072, 0, []⟩])
  (.seq (.cond (.t 9)
   (.skip)
   (.exit 0))
  (.seq (.block 1 (.seq (.reg [⟨(some 10), .mv (.t 8), none, 196608, 0, []⟩,
    ⟨(some 5), .mv (.t 10), none, 196864, 1, []⟩])
  (.seq (.reg [⟨(some 11), .mv (.t 1), none, 262144, 0, []⟩,
    ⟨(some 12), .mv (.t 0), none, 262400, 1, []⟩,
    ⟨(some 13), .mv (.t 5), none, 262656, 2, []⟩,
    ⟨(some 14), .iaddr 4 (.t 12) (.t 13), none, 262912, 3, []⟩,
    ⟨(some 15), .load 4 true (.t 14), none, 263168, 4, []⟩,
    ⟨(some 16), .callv (.t 11) [(.t 15)] true, none, 263424, 5, []⟩])
  (.cond (.t 16)
   (.seq (.reg [⟨(some 17), .mv (.t 5), none, 327680, 0, []⟩,
     ⟨(some 4), .mv (.t 17), none, 327936, 1, []⟩])
   (.ret))
   (.skip)))))
  (.reg [⟨(some 18), .bin .add (.t 8) (.k (.int .i64 1)), none, 393216, 0, []⟩,
    ⟨(some 8), .mv (.t 18), none, 393472, 1, []⟩])))))))
 (.seq (.reg [⟨(some 4), .mv (.k (.int .i64 (-1))), none, 458752, 0, []⟩])
 (.ret)))⟩
/-- loop.example/g00849/impl.IntervalAt$1 -/
def F42 : F := ⟨2, 10, [.t 3],
 .seq (.reg [⟨(some 2), .box (.t 0), none, 0, 0, []⟩,
   ⟨(some 3), .mv (.k (.bool false)), none, 256, 1, []⟩])
 (.seq (.reg [⟨(some 4), .load 1 false (.t 1), none, 65536, 0, []⟩,
   ⟨(some 5), .faddr 0 (.t 2), none, 65792, 1, []⟩,
   ⟨(some 6), .load 1 false (.t 5), none, 66048, 2, []⟩,
   ⟨(some 7), .faddr 1 (.t 2), none, 66304, 3, []⟩,
   ⟨(some 8), .load 1 false (.t 7), none, 66560, 4, []⟩,
   ⟨(some 9), .call 43 [(.t 4), (.t 6), (.t 8)] true, none, 66816, 5, []⟩,
   ⟨(some 3), .mv (.t 9), none, 67072, 6, []⟩])
 (.ret))⟩
/-- loop.example/g00849/impl.between -/
def F43 : F := ⟨3, 15, [.t 6],
 .seq (.reg [⟨(some 6), .mv (.k (.bool false)), none, 0, 0, []⟩])
 (.seq (.reg [⟨(some 7), .mv (.t 0), none, 65536, 0, []⟩,
   ⟨(some 8), .mv (.t 1), none, 65792, 1, []⟩,
   ⟨(some 9), .bin .geq (.t 7) (.t 8), none, 66048, 2, []⟩,
   ⟨(some 10), .mv (.t 9), none, 66304, 3, []⟩,
   ⟨(some 11), .mv (.t 0), (some (some 10, true)), 66560, 4, []⟩,
   ⟨(some 12), .mv (.t 2), (some (some 10, true)), 66816, 5, []⟩,
   ⟨(some 13), .bin .leq (.t 11) (.t 12), (some (some 10, true)), 67072, 6, []⟩,
   ⟨(some 14), .pick (.t 10) (.t 13) (.k (.bool false)), none, 67328, 7, []⟩,
   ⟨(some 6), .mv (.t 14), none, 67584, 8, []⟩])
 (.ret))⟩
/-- loop.example/g00849/impl.IntervalsOk -/
def F44 : F := ⟨1, 48, [.t 2],
 .seq (.reg [⟨(some 2), .mv (.k (.bool false)), none, 0, 0, []⟩])
 (.seq (.reg [⟨(some 3), .mv (.k (.int .i64 1)), none, 65536, 0, []⟩])
 (.seq (.seq (.reg [⟨(some 6), .mv (.t 0), none, 131072, 0, []⟩,
   ⟨(some 7), .len false (.t 6), none, 131328, 1, []⟩,
   ⟨(some 8), .mv (.k (.int .i64 0)), none, 131584, 2, []⟩])
 (.block 0 (.loop [0, 3, 6, 7, 8] []
  (.seq (.reg [⟨(some 9), .bin .lss (.t 8) (.t 7), none, 196608, 0, []⟩])
  (.seq (.cond (.t 9)
   (.skip)
   (.exit 0))
  (.seq (.block 1 (.seq (.reg [⟨(some 10), .iaddr 4 (.t 6) (.t 8), none, 262144, 0, []⟩,
    ⟨(some 11), .load 4 true (.t 10), none, 262400, 1, []⟩,
    ⟨(some 5), .alloc [(.int .i64 0), (.int .i64 0), (.nil true 1), (.bool false)], none, 262656, 2, []⟩,
    ⟨none, .store 4 (.t 5) (.t 11), none, 262912, 3, []⟩])
  (.seq (.seq (.reg [⟨(some 12), .faddr 0 (.t 5), none, 327680, 0, []⟩,
    ⟨(some 13), .load 1 false (.t 12), none, 327936, 1, []⟩,
    ⟨(some 14), .mv (.t 3), none, 328192, 2, []⟩,
    ⟨(some 15), .bin .neq (.t 13) (.t 14), none, 328448, 3, []⟩,
    ⟨(some 16), .mv (.t 15), none, 328704, 4, []⟩,
    ⟨(some 17), .faddr 1 (.t 5), (some (some 16, false)), 328960, 5, []⟩,
    ⟨(some 18), .load 1 false (.t 17), (some (some 16, false)), 329216, 6, []⟩,
    ⟨(some 19), .faddr 0 (.t 5), (some (some 16, false)), 329472, 7, []⟩,
    ⟨(some 20), .load 1 false (.t 19), (some (some 16, false)), 329728, 8, []⟩,
    ⟨(some 21), .call 43 [(.t 18), (.t 20), (.k (.int .i64 60))] true, (some (some 16, false)), 329984, 9, []⟩,
    ⟨(some 22), .not (.t 21), (some (some 16, false)), 330240, 10, []⟩,
    ⟨(some 23), .pick (.t 16) (.k (.bool true)) (.t 22), none, 330496, 11, []⟩,
    ⟨(some 24), .mv (.t 23), none, 330752, 12, []⟩,
    ⟨(some 25), .faddr 2 (.t 5), (some (some 24, false)), 331008, 13, []⟩,
    ⟨(some 26), .load 1 false (.t 25), (some (some 24, false)), 331264, 14, []⟩,
    ⟨(some 27), .call 84 [(.t 26)] true, (some (some 24, false)), 331520, 15, []⟩,
    ⟨(some 28), .not (.t 27), (some (some 24, false)), 331776, 16, []⟩,
    ⟨(some 29), .pick (.t 24) (.k (.bool true)) (.t 28), none, 332032, 17, []⟩,
    ⟨(some 30), .mv (.t 29), none, 332288, 18, []⟩,
    ⟨(some 31), .faddr 2 (.t 5), (some (some 30, false)), 332544, 19, []⟩,
    ⟨(some 32), .load 1 false (.t 31), (some (some 30, false)), 332800, 20, []⟩,
    ⟨(some 33), .len false (.t 32), (some (some 30, false)), 333056, 21, []⟩,
    ⟨(some 34), .mv (.t 0), (some (some 30, false)), 333312, 22, []⟩,
    ⟨(some 35), .iaddr 4 (.t 34) (.k (.int .i64 0)), (some (some 30, false)), 333568, 23, []⟩,
    ⟨(some 36), .faddr 2 (.t 35), (some (some 30, false)), 333824, 24, []⟩,
    ⟨(some 37), .load 1 false (.t 36), (some (some 30, false)), 334080, 25, []⟩,
    ⟨(some 38), .len false (.t 37), (some (some 30, false)), 334336, 26, []⟩,
    ⟨(some 39), .bin .neq (.t 33) (.t 38), (some (some 30, false)), 334592, 27, []⟩,
    ⟨(some 40), .pick (.t 30) (.k (.bool true)) (.t 39), none, 334848, 28, []⟩])
  (.cond (.t 40)
   (.seq (.reg [⟨(some 2), .mv (.k (.bool false)), none, 393216, 0, []⟩])
   (.ret))
   (.skip)))
  (.reg [⟨(some 41), .faddr 1 (.t 5), none, 458752, 0, []⟩,
    ⟨(some 42), .load 1 false (.t 41), none, 459008, 1, []⟩,
    ⟨(some 43), .bin .add (.t 42) (.k (.int .i64 1)), none, 459264, 2, []⟩,
    ⟨(some 3), .mv (.t 43), none, 459520, 3, []⟩]))))
  (.reg [⟨(some 44), .bin .add (.t 8) (.k (.int .i64 1)), none, 524288, 0, []⟩,
    ⟨(some 8), .mv (.t 44), none, 524544, 1, []⟩])))))))
 (.seq (.reg [⟨(some 45), .mv (.t 0), none, 589824, 0, []⟩,
   ⟨(some 46), .len false (.t 45), none, 590080, 1, []⟩,
   ⟨(some 47), .bin .leq (.t 46) (.k (.int .i64 60)), none, 590336, 2, []⟩,
   ⟨(some 2), .mv (.t 47), none, 590592, 3, []⟩])
 (.ret))))⟩
/-- (loop.example/g00849/impl.Interval).clone -/
def F45 : F := ⟨1, 8, [.cell 2 4 true],
 .seq (.reg [⟨(some 1), .box (.t 0), none, 0, 0, []⟩,
   ⟨(some 2), .alloc [(.int .i64 0), (.int .i64 0), (.nil true 1), (.bool false)], none, 256, 1, []⟩])
 (.seq (.reg [⟨(some 3), .faddr 2 (.t 1), none, 65536, 0, []⟩,
   ⟨(some 4), .load 1 false (.t 3), none, 65792, 1, []⟩,
   ⟨(some 5), .call 85 [(.t 4)] false, none, 66048, 2, []⟩,
   ⟨(some 6), .faddr 2 (.t 1), none, 66304, 3, []⟩,
   ⟨none, .store 1 (.t 6) (.t 5), none, 66560, 4, []⟩])
 (.seq (.reg [⟨(some 7), .load 4 true (.t 1), none, 131072, 0, []⟩,
   ⟨none, .store 4 (.t 2) (.t 7), none, 131328, 1, []⟩])
 (.ret)))⟩
/-- loop.example/g00849/laws.eqInt64S -/
def F46 : F := ⟨2, 26, [.t 4],
 .seq (.reg [⟨(some 4), .mv (.k (.bool false)), none, 0, 0, []⟩])
 (.seq (.seq (.reg [⟨(some 6), .mv (.t 0), none, 65536, 0, []⟩,
   ⟨(some 7), .len false (.t 6), none, 65792, 1, []⟩,
   ⟨(some 8), .mv (.t 1), none, 66048, 2, []⟩,
   ⟨(some 9), .len false (.t 8), none, 66304, 3, []⟩,
   ⟨(some 10), .bin .neq (.t 7) (.t 9), none, 66560, 4, []⟩])
 (.cond (.t 10)
  (.seq (.reg [⟨(some 4), .mv (.k (.bool false)), none, 131072, 0, []⟩])
  (.ret))
  (.skip)))
 (.seq (.seq (.reg [⟨(some 5), .mv (.k (.int .i64 0)), none, 196608, 0, []⟩])
 (.block 0 (.loop [0, 1, 5] []
  (.seq (.seq (.reg [⟨(some 11), .mv (.t 5), none, 262144, 0, []⟩,
    ⟨(some 12), .mv (.t 0), none, 262400, 1, []⟩,
    ⟨(some 13), .len false (.t 12), none, 262656, 2, []⟩,
    ⟨(some 14), .bin .lss (.t 11) (.t 13), none, 262912, 3, []⟩])
  (.cond (.t 14)
   (.skip)
   (.exit 0)))
  (.seq (.block 1 (.seq (.reg [⟨(some 17), .mv (.t 0), none, 393216, 0, []⟩,
    ⟨(some 18), .mv (.t 5), none, 393472, 1, []⟩,
    ⟨(some 19), .iaddr 1 (.t 17) (.t 18), none, 393728, 2, []⟩,
    ⟨(some 20), .load 1 false (.t 19), none, 393984, 3, []⟩,
    ⟨(some 21), .mv (.t 1), none, 394240, 4, []⟩,
    ⟨(some 22), .mv (.t 5), none, 394496, 5, []⟩,
    ⟨(some 23), .iaddr 1 (.t 21) (.t 22), none, 394752, 6, []⟩,
    ⟨(some 24), .load 1 false (.t 23), none, 395008, 7, []⟩,
    ⟨(some 25), .bin .neq (.t 20) (.t 24), none, 395264, 8, []⟩])
  (.cond (.t 25)
   (.seq (.reg [⟨(some 4), .mv (.k (.bool false)), none, 458752, 0, []⟩])
   (.ret))
   (.skip))))
  (.reg [⟨(some 15), .mv (.t 5), none, 327680, 0, []⟩,
    ⟨(some 16), .bin .add (.t 15) (.k (.int .i64 1)), none, 327936, 1, []⟩,
    ⟨(some 5), .mv (.t 16), none, 328192, 2, []⟩]))))))
 (.seq (.reg [⟨(some 4), .mv (.k (.bool true)), none, 524288, 0, []⟩])
 (.ret))))⟩
/-- loop.example/g00849/laws.markInt64S -/
def F47 : F := ⟨2, 19, [.t 4],
 .seq (.reg [⟨(some 4), .mv (.k (.int .i64 0)), none, 0, 0, []⟩])
 (.seq (.seq (.reg [⟨(some 5), .mv (.k (.int .i64 0)), none, 65536, 0, []⟩])
 (.block 0 (.loop [0, 1, 5] []
  (.seq (.seq (.reg [⟨(some 6), .mv (.t 5), none, 131072, 0, []⟩,
    ⟨(some 7), .mv (.t 0), none, 131328, 1, []⟩,
    ⟨(some 8), .len false (.t 7), none, 131584, 2, []⟩,
    ⟨(some 9), .bin .lss (.t 6) (.t 8), none, 131840, 3, []⟩])
  (.cond (.t 9)
   (.skip)
   (.exit 0)))
  (.seq (.block 1 (.seq (.reg [⟨(some 12), .mv (.t 0), none, 262144, 0, []⟩,
    ⟨(some 13), .mv (.t 5), none, 262400, 1, []⟩,
    ⟨(some 14), .mv (.t 1), none, 262656, 2, []⟩,
    ⟨(some 15), .iaddr 1 (.t 12) (.t 13), none, 262912, 3, []⟩,
    ⟨none, .stm 1 (.t 15) (.t 14), none, 263168, 4, []⟩])
  (.reg [⟨(some 16), .mv (.t 1), none, 327680, 0, []⟩,
    ⟨(some 17), .bin .add (.t 16) (.k (.int .i64 1)), none, 327936, 1, []⟩,
    ⟨(some 1), .mv (.t 17), none, 328192, 2, []⟩])))
  (.reg [⟨(some 10), .mv (.t 5), none, 196608, 0, []⟩,
    ⟨(some 11), .bin .add (.t 10) (.k (.int .i64 1)), none, 196864, 1, []⟩,
    ⟨(some 5), .mv (.t 11), none, 197120, 2, []⟩]))))))
 (.seq (.reg [⟨(some 18), .mv (.t 1), none, 393216, 0, []⟩,
   ⟨(some 4), .mv (.t 18), none, 393472, 1, []⟩])
 (.ret)))⟩
/-- loop.example/g00849/laws.heldInt64S -/
def F48 : F := ⟨2, 21, [.t 4],
 .seq (.reg [⟨(some 4), .mv (.k (.int .i64 0)), none, 0, 0, []⟩])
 (.seq (.seq (.reg [⟨(some 5), .mv (.k (.int .i64 0)), none, 65536, 0, []⟩])
 (.block 0 (.loop [0, 1, 5] []
  (.seq (.seq (.reg [⟨(some 6), .mv (.t 5), none, 131072, 0, []⟩,
    ⟨(some 7), .mv (.t 0), none, 131328, 1, []⟩,
    ⟨(some 8), .len false (.t 7), none, 131584, 2, []⟩,
    ⟨(some 9), .bin .lss (.t 6) (.t 8), none, 131840, 3, []⟩])
  (.cond (.t 9)
   (.skip)
   (.exit 0)))
  (.seq (.block 1 (.seq (.seq (.reg [⟨(some 12), .mv (.t 0), none, 262144, 0, []⟩,
    ⟨(some 13), .mv (.t 5), none, 262400, 1, []⟩,
    ⟨(some 14), .iaddr 1 (.t 12) (.t 13), none, 262656, 2, []⟩,
    ⟨(some 15), .load 1 false (.t 14), none, 262912, 3, []⟩,
    ⟨(some 16), .mv (.t 1), none, 263168, 4, []⟩,
    ⟨(some 17), .bin .neq (.t 15) (.t 16), none, 263424, 5, []⟩])
  (.cond (.t 17)
   (.seq (.reg [⟨(some 4), .mv (.k (.int .i64 (-1))), none, 327680, 0, []⟩])
   (.ret))
   (.skip)))
  (.reg [⟨(some 18), .mv (.t 1), none, 393216, 0, []⟩,
    ⟨(some 19), .bin .add (.t 18) (.k (.int .i64 1)), none, 393472, 1, []⟩,
    ⟨(some 1), .mv (.t 19), none, 393728, 2, []⟩])))
  (.reg [⟨(some 10), .mv (.t 5), none, 196608, 0, []⟩,
    ⟨(some 11), .bin .add (.t 10) (.k (.int .i64 1)), none, 196864, 1, []⟩,
    ⟨(some 5), .mv (.t 11), none, 197120, 2, []⟩]))))))
 (.seq (.reg [⟨(some 20), .mv (.t 1), none, 458752, 0, []⟩,
   ⟨(some 4), .mv (.t 20), none, 459008, 1, []⟩])
 (.ret)))⟩
/-- loop.example/g00849/spec.l13Ahead -/
def F49 : F := ⟨2, 30, [.t 4],
 .seq (.reg [⟨(some 4), .nil0 false 4, none, 0, 0, []⟩])
 (.seq (.reg [⟨(some 7), .bslice false 4 [(.int .i64 0), (.int .i64 0), (.nil true 1), (.bool false)] 0 [], none, 65536, 0, []⟩,
   ⟨(some 5), .mv (.t 7), none, 65792, 1, []⟩])
 (.seq (.seq (.reg [⟨(some 6), .mv (.k (.int .i64 0)), none, 131072, 0, []⟩])
 (.block 0 (.loop [0, 1, 5, 6] [0, 65536]
  (.seq (.seq (.reg [⟨(some 8), .mv (.t 6), none, 196608, 0, []⟩,
    ⟨(some 9), .mv (.t 0), none, 196864, 1, []⟩,
    ⟨(some 10), .len false (.t 9), none, 197120, 2, []⟩,
    ⟨(some 11), .bin .lss (.t 8) (.t 10), none, 197376, 3, []⟩])
  (.cond (.t 11)
   (.skip)
   (.exit 0)))
  (.seq (.block 1 (.seq (.reg [⟨(some 14), .mv (.t 0), none, 327680, 0, []⟩,
    ⟨(some 15), .mv (.t 6), none, 327936, 1, []⟩,
    ⟨(some 16), .iaddr 4 (.t 14) (.t 15), none, 328192, 2, []⟩,
    ⟨(some 17), .faddr 0 (.t 16), none, 328448, 3, []⟩,
    ⟨(some 18), .load 1 false (.t 17), none, 328704, 4, []⟩,
    ⟨(some 19), .mv (.t 1), none, 328960, 5, []⟩,
    ⟨(some 20), .bin .lss (.t 18) (.t 19), none, 329216, 6, []⟩])
  (.cond (.t 20)
   (.reg [⟨(some 21), .mv (.t 5), none, 393216, 0, []⟩,
     ⟨(some 22), .mv (.t 0), none, 393472, 1, []⟩,
     ⟨(some 23), .mv (.t 6), none, 393728, 2, []⟩,
     ⟨(some 24), .iaddr 4 (.t 22) (.t 23), none, 393984, 3, []⟩,
     ⟨(some 25), .load 4 true (.t 24), none, 394240, 4, []⟩,
     ⟨(some 26), .call 39 [(.t 25)] false, none, 394496, 5, []⟩,
     ⟨(some 27), .bsm false 4 [(.int .i64 0), (.int .i64 0), (.nil true 1), (.bool false)] 1 [(0, (.t 26))], none, 394752, 6, []⟩,
     ⟨(some 28), .apm false 4 48 (.t 21) (.t 27), none, 395008, 7, []⟩,
     ⟨(some 5), .mv (.t 28), none, 395264, 8, []⟩])
   (.skip))))
  (.reg [⟨(some 12), .mv (.t 6), none, 262144, 0, []⟩,
    ⟨(some 13), .bin .add (.t 12) (.k (.int .i64 1)), none, 262400, 1, []⟩,
    ⟨(some 6), .mv (.t 13), none, 262656, 2, []⟩]))))))
 (.seq (.reg [⟨(some 29), .mv (.t 5), none, 458752, 0, []⟩,
   ⟨(some 4), .mv (.t 29), none, 459008, 1, []⟩])
 (.ret))))⟩
/-- loop.example/g00849/impl.selected -/
def F50 : F := ⟨2, 24, [.t 4],
 .seq (.reg [⟨(some 4), .nil0 false 4, none, 0, 0, []⟩])
 (.seq (.reg [⟨(some 5), .nil0 false 4, none, 65536, 0, []⟩])
 (.seq (.seq (.reg [⟨(some 8), .mv (.t 0), none, 131072, 0, []⟩,
   ⟨(some 9), .len false (.t 8), none, 131328, 1, []⟩,
   ⟨(some 10), .mv (.k (.int .i64 0)), none, 131584, 2, []⟩])
 (.block 0 (.loop [1, 5, 8, 9, 10] [0, 65536]
  (.seq (.reg [⟨(some 11), .bin .lss (.t 10) (.t 9), none, 196608, 0, []⟩])
  (.seq (.cond (.t 11)
   (.skip)
   (.exit 0))
  (.seq (.block 1 (.seq (.reg [⟨(some 12), .iaddr 4 (.t 8) (.t 10), none, 262144, 0, []⟩,
    ⟨(some 13), .load 4 true (.t 12), none, 262400, 1, []⟩,
    ⟨(some 7), .alloc [(.int .i64 0), (.int .i64 0), (.nil true 1), (.bool false)], none, 262656, 2, []⟩,
    ⟨none, .stm 4 (.t 7) (.t 13), none, 262912, 3, []⟩])
  (.seq (.reg [⟨(some 14), .mv (.t 1), none, 327680, 0, []⟩,
    ⟨(some 15), .load 4 true (.t 7), none, 327936, 1, []⟩,
    ⟨(some 16), .callv (.t 14) [(.t 15)] true, none, 328192, 2, []⟩])
  (.cond (.t 16)
   (.reg [⟨(some 17), .mv (.t 5), none, 393216, 0, []⟩,
     ⟨(some 18), .load 4 true (.t 7), none, 393472, 1, []⟩,
     ⟨(some 19), .call 45 [(.t 18)] false, none, 393728, 2, []⟩,
     ⟨(some 20), .bsm false 4 [(.int .i64 0), (.int .i64 0), (.nil true 1), (.bool false)] 1 [(0, (.t 19))], none, 393984, 3, []⟩,
     ⟨(some 21), .apm false 4 48 (.t 17) (.t 20), none, 394240, 4, []⟩,
     ⟨(some 5), .mv (.t 21), none, 394496, 5, []⟩])
   (.skip)))))
  (.reg [⟨(some 22), .bin .add (.t 10) (.k (.int .i64 1)), none, 458752, 0, []⟩,
    ⟨(some 10), .mv (.t 22), none, 459008, 1, []⟩])))))))
 (.seq (.reg [⟨(some 23), .mv (.t 5), none, 524288, 0, []⟩,
   ⟨(some 4), .mv (.t 23), none, 524544, 1, []⟩])
 (.ret))))⟩
/-- loop.example/g00849/impl.AheadOf$1 -/
def F51 : F := ⟨2, 8, [.t 3],
 .seq (.reg [⟨(some 2), .box (.t 0), none, 0, 0, []⟩,
   ⟨(some 3), .mv (.k (.bool false)), none, 256, 1, []⟩])
 (.seq (.reg [⟨(some 4), .faddr 0 (.t 2), none, 65536, 0, []⟩,
   ⟨(some 5), .load 1 false (.t 4), none, 65792, 1, []⟩,
   ⟨(some 6), .load 1 false (.t 1), none, 66048, 2, []⟩,
   ⟨(some 7), .bin .lss (.t 5) (.t 6), none, 66304, 3, []⟩,
   ⟨(some 3), .mv (.t 7), none, 66560, 4, []⟩])
 (.ret))⟩
/-- loop.example/g00849/spec.l13Need -/
def F52 : F := ⟨2, 46, [.t 4],
 .seq (.reg [⟨(some 4), .nil0 false 4, none, 0, 0, []⟩])
 (.seq (.reg [⟨(some 7), .bslice false 4 [(.int .i64 0), (.int .i64 0), (.nil true 1), (.bool false)] 0 [], none, 65536, 0, []⟩,
   ⟨(some 5), .mv (.t 7), none, 65792, 1, []⟩])
 (.seq (.seq (.reg [⟨(some 6), .mv (.k (.int .i64 0)), none, 131072, 0, []⟩])
 (.block 0 (.loop [0, 1, 5, 6] [0, 65536]
  (.seq (.seq (.reg [⟨(some 8), .mv (.t 6), none, 196608, 0, []⟩,
    ⟨(some 9), .mv (.t 0), none, 196864, 1, []⟩,
    ⟨(some 10), .len false (.t 9), none, 197120, 2, []⟩,
    ⟨(some 11), .bin .lss (.t 8) (.t 10), none, 197376, 3, []⟩])
  (.cond (.t 11)
   (.skip)
   (.exit 0)))
  (.seq (.block 1 (.seq (.reg [⟨(some 14), .mv (.t 0), none, 327680, 0, []⟩,
    ⟨(some 15), .mv (.t 6), none, 327936, 1, []⟩,
    ⟨(some 16), .iaddr 4 (.t 14) (.t 15), none, 328192, 2, []⟩,
    ⟨(some 17), .faddr 0 (.t 16), none, 328448, 3, []⟩,
    ⟨(some 18), .load 1 false (.t 17), none, 328704, 4, []⟩,
    ⟨(some 19), .mv (.t 1), none, 328960, 5, []⟩,
    ⟨(some 20), .bin .eql (.t 18) (.t 19), none, 329216, 6, []⟩,
    ⟨(some 21), .mv (.t 20), none, 329472, 7, []⟩,
    ⟨(some 22), .mv (.t 0), (some (some 21, false)), 329728, 8, []⟩,
    ⟨(some 23), .mv (.t 6), (some (some 21, false)), 329984, 9, []⟩,
    ⟨(some 24), .iaddr 4 (.t 22) (.t 23), (some (some 21, false)), 330240, 10, []⟩,
    ⟨(some 25), .faddr 3 (.t 24), (some (some 21, false)), 330496, 11, []⟩,
    ⟨(some 26), .load 1 false (.t 25), (some (some 21, false)), 330752, 12, []⟩,
    ⟨(some 27), .mv (.t 26), (some (some 21, false)), 331008, 13, []⟩,
    ⟨(some 28), .mv (.t 0), (some (some 27, true)), 331264, 14, []⟩,
    ⟨(some 29), .mv (.t 6), (some (some 27, true)), 331520, 15, []⟩,
    ⟨(some 30), .iaddr 4 (.t 28) (.t 29), (some (some 27, true)), 331776, 16, []⟩,
    ⟨(some 31), .faddr 0 (.t 30), (some (some 27, true)), 332032, 17, []⟩,
    ⟨(some 32), .load 1 false (.t 31), (some (some 27, true)), 332288, 18, []⟩,
    ⟨(some 33), .mv (.t 1), (some (some 27, true)), 332544, 19, []⟩,
    ⟨(some 34), .bin .geq (.t 32) (.t 33), (some (some 27, true)), 332800, 20, []⟩,
    ⟨(some 35), .pick (.t 27) (.t 34) (.k (.bool false)), (some (some 21, false)), 333056, 21, []⟩,
    ⟨(some 36), .pick (.t 21) (.k (.bool true)) (.t 35), none, 333312, 22, []⟩])
  (.cond (.t 36)
   (.reg [⟨(some 37), .mv (.t 5), none, 393216, 0, []⟩,
     ⟨(some 38), .mv (.t 0), none, 393472, 1, []⟩,
     ⟨(some 39), .mv (.t 6), none, 393728, 2, []⟩,
     ⟨(some 40), .iaddr 4 (.t 38) (.t 39), none, 393984, 3, []⟩,
     ⟨(some 41), .load 4 true (.t 40), none, 394240, 4, []⟩,
     ⟨(some 42), .call 39 [(.t 41)] false, none, 394496, 5, []⟩,
     ⟨(some 43), .bsm false 4 [(.int .i64 0), (.int .i64 0), (.nil true 1), (.bool false)] 1 [(0, (.t 42))], none, 394752, 6, []⟩,
     ⟨(some 44), .apm false 4 48 (.t 37) (.t 43), none, 395008, 7, []⟩,
     ⟨(some 5), .mv (.t 44), none, 395264, 8, []⟩])
   (.skip))))
  (.reg [⟨(some 12), .mv (.t 6), none, 262144, 0, []⟩,
    ⟨(some 13), .bin .add (.t 12) (.k (.int .i64 1)), none, 262400, 1, []⟩,
    ⟨(some 6), .mv (.t 13), none, 262656, 2, []⟩]))))))
 (.seq (.reg [⟨(some 45), .mv (.t 5), none, 458752, 0, []⟩,
   ⟨(some 4), .mv (.t 45), none, 459008, 1, []⟩])
 (.ret))))⟩
/-- loop.example/g00849/impl.NeedOf$1 -/
def F53 : F := ⟨2, 7, [.t 3],
 .seq (.reg [⟨(some 2), .box (.t 0), none, 0, 0, []⟩,
   ⟨(some 3), .mv (.k (.bool false)), none, 256, 1, []⟩])
 (.seq (.reg [⟨(some 4), .load 4 true (.t 2), none, 65536, 0, []⟩,
   ⟨(some 5), .load 1 false (.t 1), none, 65792, 1, []⟩,
   ⟨(some 6), .call 54 [(.t 4), (.t 5)] true, none, 66048, 2, []⟩,
   ⟨(some 3), .mv (.t 6), none, 66304, 3, []⟩])
 (.ret))⟩
/-- (loop.example/g00849/impl.Interval).needs -/
def F54 : F := ⟨2, 19, [.t 4],
 .seq (.reg [⟨(some 2), .box (.t 0), none, 0, 0, []⟩,
   ⟨(some 4), .mv (.k (.bool false)), none, 256, 1, []⟩])
 (.seq (.reg [⟨(some 5), .faddr 3 (.t 2), none, 65536, 0, []⟩,
   ⟨(some 6), .load 1 false (.t 5), none, 65792, 1, []⟩,
   ⟨(some 7), .mv (.t 6), none, 66048, 2, []⟩,
   ⟨(some 8), .faddr 0 (.t 2), (some (some 7, true)), 66304, 3, []⟩,
   ⟨(some 9), .load 1 false (.t 8), (some (some 7, true)), 66560, 4, []⟩,
   ⟨(some 10), .mv (.t 1), (some (some 7, true)), 66816, 5, []⟩,
   ⟨(some 11), .bin .geq (.t 9) (.t 10), (some (some 7, true)), 67072, 6, []⟩,
   ⟨(some 12), .pick (.t 7) (.t 11) (.k (.bool false)), none, 67328, 7, []⟩,
   ⟨(some 13), .mv (.t 12), none, 67584, 8, []⟩,
   ⟨(some 14), .faddr 0 (.t 2), (some (some 13, false)), 67840, 9, []⟩,
   ⟨(some 15), .load 1 false (.t 14), (some (some 13, false)), 68096, 10, []⟩,
   ⟨(some 16), .mv (.t 1), (some (some 13, false)), 68352, 11, []⟩,
   ⟨(some 17), .bin .eql (.t 15) (.t 16), (some (some 13, false)), 68608, 12, []⟩,
   ⟨(some 18), .pick (.t 13) (.k (.bool true)) (.t 17), none, 68864, 13, []⟩,
   ⟨(some 4), .mv (.t 18), none, 69120, 14, []⟩])
 (.ret))⟩
/-- loop.example/g00849/spec.l00In -/
def F58 : F := ⟨3, 15, [.t 6],
 .seq (.reg [⟨(some 6), .mv (.k (.bool false)), none, 0, 0, []⟩])
 (.seq (.reg [⟨(some 7), .mv (.t 0), none, 65536, 0, []⟩,
   ⟨(some 8), .mv (.t 1), none, 65792, 1, []⟩,
   ⟨(some 9), .bin .geq (.t 7) (.t 8), none, 66048, 2, []⟩,
   ⟨(some 10), .mv (.t 9), none, 66304, 3, []⟩,
   ⟨(some 11), .mv (.t 0), (some (some 10, true)), 66560, 4, []⟩,
   ⟨(some 12), .mv (.t 2), (some (some 10, true)), 66816, 5, []⟩,
   ⟨(some 13), .bin .leq (.t 11) (.t 12), (some (some 10, true)), 67072, 6, []⟩,
   ⟨(some 14), .pick (.t 10) (.t 13) (.k (.bool false)), none, 67328, 7, []⟩,
   ⟨(some 6), .mv (.t 14), none, 67584, 8, []⟩])
 (.ret))⟩
/-- loop.example/g00849/laws.szInt64S -/
def F80 : F := ⟨2, 12, [.t 4],
 .seq (.reg [⟨(some 4), .mv (.k (.int .i64 0)), none, 0, 0, []⟩])
 (.seq (.reg [⟨(some 5), .mv (.t 1), none, 65536, 0, []⟩,
   ⟨(some 6), .mv (.t 0), none, 65792, 1, []⟩,
   ⟨(some 7), .len false (.t 6), none, 66048, 2, []⟩,
   ⟨(some 8), .bin .sub (.t 5) (.t 7), none, 66304, 3, []⟩,
   ⟨(some 1), .mv (.t 8), none, 66560, 4, []⟩])
 (.seq (.seq (.reg [⟨(some 9), .mv (.t 1), none, 131072, 0, []⟩,
   ⟨(some 10), .bin .lss (.t 9) (.k (.int .i64 0)), none, 131328, 1, []⟩])
 (.cond (.t 10)
  (.seq (.reg [⟨(some 4), .mv (.k (.int .i64 (-1))), none, 196608, 0, []⟩])
  (.ret))
  (.skip)))
 (.seq (.reg [⟨(some 11), .mv (.t 1), none, 262144, 0, []⟩,
   ⟨(some 4), .mv (.t 11), none, 262400, 1, []⟩])
 (.ret))))⟩
/-- loop.example/g00849/spec.l12Ok -/
def F81 : F := ⟨1, 41, [.t 2],
 .seq (.reg [⟨(some 2), .mv (.k (.bool false)), none, 0, 0, []⟩])
 (.seq (.seq (.reg [⟨(some 4), .mv (.t 0), none, 65536, 0, []⟩,
   ⟨(some 5), .len false (.t 4), none, 65792, 1, []⟩,
   ⟨(some 6), .bin .lss (.t 5) (.k (.int .i64 1)), none, 66048, 2, []⟩,
   ⟨(some 7), .mv (.t 6), none, 66304, 3, []⟩,
   ⟨(some 8), .mv (.t 0), (some (some 7, false)), 66560, 4, []⟩,
   ⟨(some 9), .len false (.t 8), (some (some 7, false)), 66816, 5, []⟩,
   ⟨(some 10), .bin .gtr (.t 9) (.k (.int .i64 7)), (some (some 7, false)), 67072, 6, []⟩,
   ⟨(some 11), .pick (.t 7) (.k (.bool true)) (.t 10), none, 67328, 7, []⟩])
 (.cond (.t 11)
  (.seq (.reg [⟨(some 2), .mv (.k (.bool false)), none, 131072, 0, []⟩])
  (.ret))
  (.skip)))
 (.seq (.seq (.reg [⟨(some 3), .mv (.k (.int .i64 0)), none, 196608, 0, []⟩])
 (.block 0 (.loop [0, 3] []
  (.seq (.seq (.reg [⟨(some 12), .mv (.t 3), none, 262144, 0, []⟩,
    ⟨(some 13), .mv (.t 0), none, 262400, 1, []⟩,
    ⟨(some 14), .len false (.t 13), none, 262656, 2, []⟩,
    ⟨(some 15), .bin .lss (.t 12) (.t 14), none, 262912, 3, []⟩])
  (.cond (.t 15)
   (.skip)
   (.exit 0)))
  (.seq (.block 1 (.seq (.reg [⟨(some 18), .mv (.t 0), none, 393216, 0, []⟩,
    ⟨(some 19), .mv (.t 3), none, 393472, 1, []⟩,
    ⟨(some 20), .iaddr 1 (.t 18) (.t 19), none, 393728, 2, []⟩,
    ⟨(some 21), .load 1 false (.t 20), none, 393984, 3, []⟩,
    ⟨(some 22), .call 58 [(.t 21), (.k (.int .i64 (-1))), (.k (.int .i64 15))] true, none, 394240, 4, []⟩,
    ⟨(some 23), .not (.t 22), none, 394496, 5, []⟩,
    ⟨(some 24), .mv (.t 23), none, 394752, 6, []⟩,
    ⟨(some 25), .mv (.t 0), (some (some 24, false)), 395008, 7, []⟩,
    ⟨(some 26), .mv (.t 3), (some (some 24, false)), 395264, 8, []⟩,
    ⟨(some 27), .iaddr 1 (.t 25) (.t 26), (some (some 24, false)), 395520, 9, []⟩,
    ⟨(some 28), .load 1 false (.t 27), (some (some 24, false)), 395776, 10, []⟩,
    ⟨(some 29), .bin .geq (.t 28) (.k (.int .i64 0)), (some (some 24, false)), 396032, 11, []⟩,
    ⟨(some 30), .mv (.t 29), (some (some 24, false)), 396288, 12, []⟩,
    ⟨(some 31), .mv (.t 0), (some (some 30, true)), 396544, 13, []⟩,
    ⟨(some 32), .mv (.t 3), (some (some 30, true)), 396800, 14, []⟩,
    ⟨(some 33), .cut 1 (.t 31) none (some (.t 32)), (some (some 30, true)), 397056, 15, []⟩,
    ⟨(some 34), .mv (.t 0), (some (some 30, true)), 397312, 16, []⟩,
    ⟨(some 35), .mv (.t 3), (some (some 30, true)), 397568, 17, []⟩,
    ⟨(some 36), .iaddr 1 (.t 34) (.t 35), (some (some 30, true)), 397824, 18, []⟩,
    ⟨(some 37), .load 1 false (.t 36), (some (some 30, true)), 398080, 19, []⟩,
    ⟨(some 38), .call 111 [(.t 33), (.t 37)] true, (some (some 30, true)), 398336, 20, []⟩,
    ⟨(some 39), .pick (.t 30) (.t 38) (.k (.bool false)), (some (some 24, false)), 398592, 21, []⟩,
    ⟨(some 40), .pick (.t 24) (.k (.bool true)) (.t 39), none, 398848, 22, []⟩])
  (.cond (.t 40)
   (.seq (.reg [⟨(some 2), .mv (.k (.bool false)), none, 458752, 0, []⟩])
   (.ret))
   (.skip))))
  (.reg [⟨(some 16), .mv (.t 3), none, 327680, 0, []⟩,
    ⟨(some 17), .bin .add (.t 16) (.k (.int .i64 1)), none, 327936, 1, []⟩,
    ⟨(some 3), .mv (.t 17), none, 328192, 2, []⟩]))))))
 (.seq (.reg [⟨(some 2), .mv (.k (.bool true)), none, 524288, 0, []⟩])
 (.ret))))⟩
/-- loop.example/g00849/spec.l00Own -/
def F82 : F := ⟨1, 6, [.t 2],
 .seq (.reg [⟨(some 2), .nil0 true 1, none, 0, 0, []⟩])
 (.seq (.reg [⟨(some 3), .bslice true 1 [(.int .i64 0)] 0 [], none, 65536, 0, []⟩,
   ⟨(some 4), .mv (.t 0), none, 65792, 1, []⟩,
   ⟨(some 5), .app true 1 8 (.t 3) (.t 4), none, 66048, 2, []⟩,
   ⟨(some 2), .mv (.t 5), none, 66304, 3, []⟩])
 (.ret))⟩
/-- loop.example/g00849/laws.toInt64S -/
def F83 : F := ⟨1, 22, [.t 2],
 .seq (.reg [⟨(some 2), .nil0 true 1, none, 0, 0, []⟩])
 (.seq (.reg [⟨(some 5), .mv (.t 0), none, 65536, 0, []⟩,
   ⟨(some 6), .len false (.t 5), none, 65792, 1, []⟩,
   ⟨(some 7), .mksl true 1 8 [(.int .i64 0)] (.t 6) (.t 6), none, 66048, 2, []⟩,
   ⟨(some 3), .mv (.t 7), none, 66304, 3, []⟩])
 (.seq (.seq (.reg [⟨(some 4), .mv (.k (.int .i64 0)), none, 131072, 0, []⟩])
 (.block 0 (.loop [0, 3, 4] [0, 66048]
  (.seq (.seq (.reg [⟨(some 8), .mv (.t 4), none, 196608, 0, []⟩,
    ⟨(some 9), .mv (.t 0), none, 196864, 1, []⟩,
    ⟨(some 10), .len false (.t 9), none, 197120, 2, []⟩,
    ⟨(some 11), .bin .lss (.t 8) (.t 10), none, 197376, 3, []⟩])
  (.cond (.t 11)
   (.skip)
   (.exit 0)))
  (.seq (.block 1 (.reg [⟨(some 14), .mv (.t 3), none, 327680, 0, []⟩,
    ⟨(some 15), .mv (.t 4), none, 327936, 1, []⟩,
    ⟨(some 16), .mv (.t 0), none, 328192, 2, []⟩,
    ⟨(some 17), .mv (.t 4), none, 328448, 3, []⟩,
    ⟨(some 18), .iaddr 1 (.t 16) (.t 17), none, 328704, 4, []⟩,
    ⟨(some 19), .load 1 false (.t 18), none, 328960, 5, []⟩,
    ⟨(some 20), .iaddr 1 (.t 14) (.t 15), none, 329216, 6, []⟩,
    ⟨none, .store 1 (.t 20) (.t 19), none, 329472, 7, []⟩]))
  (.reg [⟨(some 12), .mv (.t 4), none, 262144, 0, []⟩,
    ⟨(some 13), .bin .add (.t 12) (.k (.int .i64 1)), none, 262400, 1, []⟩,
    ⟨(some 4), .mv (.t 13), none, 262656, 2, []⟩]))))))
 (.seq (.reg [⟨(some 21), .mv (.t 3), none, 393216, 0, []⟩,
   ⟨(some 2), .mv (.t 21), none, 393472, 1, []⟩])
 (.ret))))⟩
/-- loop.example/g00849/impl.ActingOk -/
def F84 : F := ⟨1, 30, [.t 2],
 .seq (.reg [⟨(some 2), .mv (.k (.bool false)), none, 0, 0, []⟩])
 (.seq (.seq (.reg [⟨(some 5), .mv (.t 0), none, 65536, 0, []⟩,
   ⟨(some 6), .len false (.t 5), none, 65792, 1, []⟩,
   ⟨(some 7), .mv (.k (.int .i64 0)), none, 66048, 2, []⟩])
 (.block 0 (.loop [0, 5, 6, 7] []
  (.seq (.reg [⟨(some 8), .bin .lss (.t 7) (.t 6), none, 131072, 0, []⟩])
  (.seq (.cond (.t 8)
   (.skip)
   (.exit 0))
  (.seq (.block 1 (.seq (.reg [⟨(some 9), .mv (.t 7), none, 196608, 0, []⟩,
    ⟨(some 10), .iaddr 1 (.t 5) (.t 7), none, 196864, 1, []⟩,
    ⟨(some 11), .load 1 false (.t 10), none, 197120, 2, []⟩,
    ⟨(some 3), .mv (.t 9), none, 197376, 3, []⟩,
    ⟨(some 4), .mv (.t 11), none, 197632, 4, []⟩])
  (.seq (.reg [⟨(some 12), .mv (.t 4), none, 262144, 0, []⟩,
    ⟨(some 13), .call 43 [(.t 12), (.k (.int .i64 (-1))), (.k (.int .i64 15))] true, none, 262400, 1, []⟩,
    ⟨(some 14), .not (.t 13), none, 262656, 2, []⟩,
    ⟨(some 15), .mv (.t 14), none, 262912, 3, []⟩,
    ⟨(some 16), .mv (.t 4), (some (some 15, false)), 263168, 4, []⟩,
    ⟨(some 17), .bin .geq (.t 16) (.k (.int .i64 0)), (some (some 15, false)), 263424, 5, []⟩,
    ⟨(some 18), .mv (.t 17), (some (some 15, false)), 263680, 6, []⟩,
    ⟨(some 19), .mv (.t 0), (some (some 18, true)), 263936, 7, []⟩,
    ⟨(some 20), .mv (.t 3), (some (some 18, true)), 264192, 8, []⟩,
    ⟨(some 21), .cut 1 (.t 19) none (some (.t 20)), (some (some 18, true)), 264448, 9, []⟩,
    ⟨(some 22), .mv (.t 4), (some (some 18, true)), 264704, 10, []⟩,
    ⟨(some 23), .call 107 [(.t 21), (.t 22)] true, (some (some 18, true)), 264960, 11, []⟩,
    ⟨(some 24), .pick (.t 18) (.t 23) (.k (.bool false)), (some (some 15, false)), 265216, 12, []⟩,
    ⟨(some 25), .pick (.t 15) (.k (.bool true)) (.t 24), none, 265472, 13, []⟩])
  (.cond (.t 25)
   (.seq (.reg [⟨(some 2), .mv (.k (.bool false)), none, 327680, 0, []⟩])
   (.ret))
   (.skip)))))
  (.reg [⟨(some 26), .bin .add (.t 7) (.k (.int .i64 1)), none, 393216, 0, []⟩,
    ⟨(some 7), .mv (.t 26), none, 393472, 1, []⟩])))))))
 (.seq (.reg [⟨(some 27), .mv (.t 0), none, 458752, 0, []⟩,
   ⟨(some 28), .len false (.t 27), none, 459008, 1, []⟩,
   ⟨(some 29), .call 43 [(.t 28), (.k (.int .i64 1)), (.k (.int .i64 7))] true, none, 459264, 2, []⟩,
   ⟨(some 2), .mv (.t 29), none, 459520, 3, []⟩])
 (.ret)))⟩
/-- slices.Clone[[]int64,int64] -/
def F85 : F := ⟨1, 8, [.t 2],
 .seq (.reg [⟨(some 2), .nil0 true 1, none, 0, 0, []⟩])
 (.seq (.seq (.reg [⟨(some 3), .mv (.t 0), none, 65536, 0, []⟩])
 (.ifnil false 4 (.t 3)
  (.seq (.reg [⟨(some 2), .nil0 true 1, none, 131072, 0, []⟩])
  (.ret))
  (.skip)))
 (.seq (.reg [⟨(some 5), .bslice true 1 [(.int .i64 0)] 0 [], none, 196608, 0, []⟩,
   ⟨(some 6), .mv (.t 0), none, 196864, 1, []⟩,
   ⟨(some 7), .app true 1 8 (.t 5) (.t 6), none, 197120, 2, []⟩,
   ⟨(some 2), .mv (.t 7), none, 197376, 3, []⟩])
 (.ret)))⟩
/-- slices.Contains[[]int64,int64] -/
def F107 : F := ⟨2, 9, [.t 4],
 .seq (.reg [⟨(some 4), .mv (.k (.bool false)), none, 0, 0, []⟩])
 (.seq (.reg [⟨(some 5), .mv (.t 0), none, 65536, 0, []⟩,
   ⟨(some 6), .mv (.t 1), none, 65792, 1, []⟩,
   ⟨(some 7), .call 118 [(.t 5), (.t 6)] true, none, 66048, 2, []⟩,
   ⟨(some 8), .bin .geq (.t 7) (.k (.int .i64 0)), none, 66304, 3, []⟩,
   ⟨(some 4), .mv (.t 8), none, 66560, 4, []⟩])
 (.ret))⟩
/-- loop.example/g00849/spec.l00Has -/
def F111 : F := ⟨2, 18, [.t 4],
 .seq (.reg [⟨(some 4), .mv (.k (.bool false)), none, 0, 0, []⟩])
 (.seq (.seq (.reg [⟨(some 5), .mv (.k (.int .i64 0)), none, 65536, 0, []⟩])
 (.block 0 (.loop [0, 1, 5] []
  (.seq (.seq (.reg [⟨(some 6), .mv (.t 5), none, 131072, 0, []⟩,
    ⟨(some 7), .mv (.t 0), none, 131328, 1, []⟩,
    ⟨(some 8), .len false (.t 7), none, 131584, 2, []⟩,
    ⟨(some 9), .bin .lss (.t 6) (.t 8), none, 131840, 3, []⟩])
  (.cond (.t 9)
   (.skip)
   (.exit 0)))
  (.seq (.block 1 (.seq (.reg [⟨(some 12), .mv (.t 0), none, 262144, 0, []⟩,
    ⟨(some 13), .mv (.t 5), none, 262400, 1, []⟩,
    ⟨(some 14), .iaddr 1 (.t 12) (.t 13), none, 262656, 2, []⟩,
    ⟨(some 15), .load 1 false (.t 14), none, 262912, 3, []⟩,
    ⟨(some 16), .mv (.t 1), none, 263168, 4, []⟩,
    ⟨(some 17), .bin .eql (.t 15) (.t 16), none, 263424, 5, []⟩])
  (.cond (.t 17)
   (.seq (.reg [⟨(some 4), .mv (.k (.bool true)), none, 327680, 0, []⟩])
   (.ret))
   (.skip))))
  (.reg [⟨(some 10), .mv (.t 5), none, 196608, 0, []⟩,
    ⟨(some 11), .bin .add (.t 10) (.k (.int .i64 1)), none, 196864, 1, []⟩,
    ⟨(some 5), .mv (.t 11), none, 197120, 2, []⟩]))))))
 (.seq (.reg [⟨(some 4), .mv (.k (.bool false)), none, 393216, 0, []⟩])
 (.ret)))⟩
/-- slices.Index[[]int64,int64] -/
def F118 : F := ⟨2, 19, [.t 4],
 .seq (.reg [⟨(some 4), .mv (.k (.int .i64 0)), none, 0, 0, []⟩])
 (.seq (.seq (.reg [⟨(some 6), .mv (.t 0), none, 65536, 0, []⟩,
   ⟨(some 7), .len false (.t 6), none, 65792, 1, []⟩,
   ⟨(some 8), .mv (.k (.int .i64 0)), none, 66048, 2, []⟩])
 (.block 0 (.loop [0, 1, 7, 8] []
  (.seq (.reg [⟨(some 9), .bin .lss (.t 8) (.t 7), none, 131072, 0, []⟩])
  (.seq (.cond (.t 9)
   (.skip)
   (.exit 0))
  (.seq (.block 1 (.seq (.reg [⟨(some 10), .mv (.t 8), none, 196608, 0, []⟩,
    ⟨(some 5), .mv (.t 10), none, 196864, 1, []⟩])
  (.seq (.reg [⟨(some 11), .mv (.t 1), none, 262144, 0, []⟩,
    ⟨(some 12), .mv (.t 0), none, 262400, 1, []⟩,
    ⟨(some 13), .mv (.t 5), none, 262656, 2, []⟩,
    ⟨(some 14), .iaddr 1 (.t 12) (.t 13), none, 262912, 3, []⟩,
    ⟨(some 15), .load 1 false (.t 14), none, 263168, 4, []⟩,
    ⟨(some 16), .bin .eql (.t 11) (.t 15), none, 263424, 5, []⟩])
  (.cond (.t 16)
   (.seq (.reg [⟨(some 17), .mv (.t 5), none, 327680, 0, []⟩,
     ⟨(some 4), .mv (.t 17), none, 327936, 1, []⟩])
   (.ret))
   (.skip)))))
  (.reg [⟨(some 18), .bin .add (.t 8) (.k (.int .i64 1)), none, 393216, 0, []⟩,
    ⟨(some 8), .mv (.t 18), none, 393472, 1, []⟩])))))))
 (.seq (.reg [⟨(some 4), .mv (.k (.int .i64 (-1))), none, 458752, 0, []⟩])
 (.ret)))⟩
def fns : Nat → Option F
  | 3 => some F3
  | 4 => some F4
  | 5 => some F5
  | 8 => some F8
  | 9 => some F9
  | 10 => some F10
  | 11 => some F11
  | 12 => some F12
  | 13 => some F13
  | 14 => some F14
  | 15 => some F15
  | 16 => some F16
  | 17 => some F17
  | 18 => some F18
  | 19 => some F19
  | 20 => some F20
  | 21 => some F21
  | 37 => some F37
  | 38 => some F38
  | 39 => some F39
  | 40 => some F40
  | 41 => some F41
  | 42 => some F42
  | 43 => some F43
  | 44 => some F44
  | 45 => some F45
  | 46 => some F46
  | 47 => some F47
  | 48 => some F48
  | 49 => some F49
  | 50 => some F50
  | 51 => some F51
  | 52 => some F52
  | 53 => some F53
  | 54 => some F54
  | 58 => some F58
  | 80 => some F80
  | 81 => some F81
  | 82 => some F82
  | 83 => some F83
  | 84 => some F84
  | 85 => some F85
  | 107 => some F107
  | 111 => some F111
  | 118 => some F118
  | _ => none
def code : Prog := ⟨fns, md, fun _ => none⟩
theorem fn3 : code.fn 3 = some F3 := rfl
theorem fn4 : code.fn 4 = some F4 := rfl
theorem fn5 : code.fn 5 = some F5 := rfl
theorem fn8 : code.fn 8 = some F8 := rfl
theorem fn9 : code.fn 9 = some F9 := rfl
theorem fn10 : code.fn 10 = some F10 := rfl
theorem fn11 : code.fn 11 = some F11 := rfl
theorem fn12 : code.fn 12 = some F12 := rfl
theorem fn13 : code.fn 13 = some F13 := rfl
theorem fn14 : code.fn 14 = some F14 := rfl
theorem fn15 : code.fn 15 = some F15 := rfl
theorem fn16 : code.fn 16 = some F16 := rfl
theorem fn17 : code.fn 17 = some F17 := rfl
theorem fn18 : code.fn 18 = some F18 := rfl
theorem fn19 : code.fn 19 = some F19 := rfl
theorem fn20 : code.fn 20 = some F20 := rfl
theorem fn21 : code.fn 21 = some F21 := rfl
theorem fn37 : code.fn 37 = some F37 := rfl
theorem fn38 : code.fn 38 = some F38 := rfl
theorem fn39 : code.fn 39 = some F39 := rfl
theorem fn40 : code.fn 40 = some F40 := rfl
theorem fn41 : code.fn 41 = some F41 := rfl
theorem fn42 : code.fn 42 = some F42 := rfl
theorem fn43 : code.fn 43 = some F43 := rfl
theorem fn44 : code.fn 44 = some F44 := rfl
theorem fn45 : code.fn 45 = some F45 := rfl
theorem fn46 : code.fn 46 = some F46 := rfl
theorem fn47 : code.fn 47 = some F47 := rfl
theorem fn48 : code.fn 48 = some F48 := rfl
theorem fn49 : code.fn 49 = some F49 := rfl
theorem fn50 : code.fn 50 = some F50 := rfl
theorem fn51 : code.fn 51 = some F51 := rfl
theorem fn52 : code.fn 52 = some F52 := rfl
theorem fn53 : code.fn 53 = some F53 := rfl
theorem fn54 : code.fn 54 = some F54 := rfl
theorem fn58 : code.fn 58 = some F58 := rfl
theorem fn80 : code.fn 80 = some F80 := rfl
theorem fn81 : code.fn 81 = some F81 := rfl
theorem fn82 : code.fn 82 = some F82 := rfl
theorem fn83 : code.fn 83 = some F83 := rfl
theorem fn84 : code.fn 84 = some F84 := rfl
theorem fn85 : code.fn 85 = some F85 := rfl
theorem fn107 : code.fn 107 = some F107 := rfl
theorem fn111 : code.fn 111 = some F111 := rfl
theorem fn118 : code.fn 118 = some F118 := rfl
theorem rcall3 {O : Oracle} {st : St} {Q : Ex → St → Prop} {fs : List Fr} {d : Option Nat} {b i : Nat} {ap : List X} {r : List IOp} (xs : List X) (fl : Bool) : RunO O code.md (⟨d, .call 3 xs fl, none, b, i, ap⟩ :: r) fs st Q = (quietOk st (.call 3 xs fl) ap = true ∧ RunQ O code.md (callVal O st b 3 (evalXs st xs) fl) d r fs st Q) := R_call 3 xs fl rfl
theorem rcall4 {O : Oracle} {st : St} {Q : Ex → St → Prop} {fs : List Fr} {d : Option Nat} {b i : Nat} {ap : List X} {r : List IOp} (xs : List X) (fl : Bool) : RunO O code.md (⟨d, .call 4 xs fl, none, b, i, ap⟩ :: r) fs st Q = (quietOk st (.call 4 xs fl) ap = true ∧ RunQ O code.md (callVal O st b 4 (evalXs st xs) fl) d r fs st Q) := R_call 4 xs fl rfl
theorem rcall5 {O : Oracle} {st : St} {Q : Ex → St → Prop} {fs : List Fr} {d : Option Nat} {b i : Nat} {ap : List X} {r : List IOp} (xs : List X) (fl : Bool) : RunO O code.md (⟨d, .call 5 xs fl, none, b, i, ap⟩ :: r) fs st Q = (quietOk st (.call 5 xs fl) ap = true ∧ RunQ O code.md (callVal O st b 5 (evalXs st xs) fl) d r fs st Q) := R_call 5 xs fl rfl
theorem rcall8 {O : Oracle} {st : St} {Q : Ex → St → Prop} {fs : List Fr} {d : Option Nat} {b i : Nat} {ap : List X} {r : List IOp} (xs : List X) (fl : Bool) : RunO O code.md (⟨d, .call 8 xs fl, none, b, i, ap⟩ :: r) fs st Q = (quietOk st (.call 8 xs fl) ap = true ∧ RunQ O code.md (callVal O st b 8 (evalXs st xs) fl) d r fs st Q) := R_call 8 xs fl rfl
theorem rcall9 {O : Oracle} {st : St} {Q : Ex → St → Prop} {fs : List Fr} {d : Option Nat} {b i : Nat} {ap : List X} {r : List IOp} (xs : List X) (fl : Bool) : RunO O code.md (⟨d, .call 9 xs fl, none, b, i, ap⟩ :: r) fs st Q = (quietOk st (.call 9 xs fl) ap = true ∧ RunQ O code.md (callVal O st b 9 (evalXs st xs) fl) d r fs st Q) := R_call 9 xs fl rfl
theorem rcall10 {O : Oracle} {st : St} {Q : Ex → St → Prop} {fs : List Fr} {d : Option Nat} {b i : Nat} {ap : List X} {r : List IOp} (xs : List X) (fl : Bool) : RunO O code.md (⟨d, .call 10 xs fl, none, b, i, ap⟩ :: r) fs st Q = (quietOk st (.call 10 xs fl) ap = true ∧ RunQ O code.md (callVal O st b 10 (evalXs st xs) fl) d r fs st Q) := R_call 10 xs fl rfl
theorem rcall11 {O : Oracle} {st : St} {Q : Ex → St → Prop} {fs : List Fr} {d : Option Nat} {b i : Nat} {ap : List X} {r : List IOp} (xs : List X) (fl : Bool) : RunO O code.md (⟨d, .call 11 xs fl, none, b, i, ap⟩ :: r) fs st Q = (quietOk st (.call 11 xs fl) ap = true ∧ RunQ O code.md (callVal O st b 11 (evalXs st xs) fl) d r fs st Q) := R_call 11 xs fl rfl
theorem rcall12 {O : Oracle} {st : St} {Q : Ex → St → Prop} {fs : List Fr} {d : Option Nat} {b i : Nat} {ap : List X} {r : List IOp} (xs : List X) (fl : Bool) : RunO O code.md (⟨d, .call 12 xs fl, none, b, i, ap⟩ :: r) fs st Q = (quietOk st (.call 12 xs fl) ap = true ∧ RunQ O code.md (callVal O st b 12 (evalXs st xs) fl) d r fs st Q) := R_call 12 xs fl rfl
theorem rcall13 {O : Oracle} {st : St} {Q : Ex → St → Prop} {fs : List Fr} {d : Option Nat} {b i : Nat} {ap : List X} {r : List IOp} (xs : List X) (fl : Bool) : RunO O code.md (⟨d, .call 13 xs fl, none, b, i, ap⟩ :: r) fs st Q = (quietOk st (.call 13 xs fl) ap = true ∧ RunQ O code.md (callVal O st b 13 (evalXs st xs) fl) d r fs st Q) := R_call 13 xs fl rfl
theorem rcall14 {O : Oracle} {st : St} {Q : Ex → St → Prop} {fs : List Fr} {d : Option Nat} {b i : Nat} {ap : List X} {r : List IOp} (xs : List X) (fl : Bool) : RunO O code.md (⟨d, .call 14 xs fl, none, b, i, ap⟩ :: r) fs st Q = ((apartOk st (.call 14 xs fl) ap && keyedOk st ap) = true ∧ RunK O code.md (callRef O st b 14 (evalXs st xs) fl) st (.call 14 xs fl) ap d r fs Q) := R_callr 14 xs fl rfl
theorem rcall15 {O : Oracle} {st : St} {Q : Ex → St → Prop} {fs : List Fr} {d : Option Nat} {b i : Nat} {ap : List X} {r : List IOp} (xs : List X) (fl : Bool) : RunO O code.md (⟨d, .call 15 xs fl, none, b, i, ap⟩ :: r) fs st Q = ((apartOk st (.call 15 xs fl) ap && keyedOk st ap) = true ∧ RunK O code.md (callRef O st b 15 (evalXs st xs) fl) st (.call 15 xs fl) ap d r fs Q) := R_callr 15 xs fl rfl
theorem rcall16 {O : Oracle} {st : St} {Q : Ex → St → Prop} {fs : List Fr} {d : Option Nat} {b i : Nat} {ap : List X} {r : List IOp} (xs : List X) (fl : Bool) : RunO O code.md (⟨d, .call 16 xs fl, none, b, i, ap⟩ :: r) fs st Q = (quietOk st (.call 16 xs fl) ap = true ∧ RunQ O code.md (callVal O st b 16 (evalXs st xs) fl) d r fs st Q) := R_call 16 xs fl rfl
theorem rcall17 {O : Oracle} {st : St} {Q : Ex → St → Prop} {fs : List Fr} {d : Option Nat} {b i : Nat} {ap : List X} {r : List IOp} (xs : List X) (fl : Bool) : RunO O code.md (⟨d, .call 17 xs fl, none, b, i, ap⟩ :: r) fs st Q = (quietOk st (.call 17 xs fl) ap = true ∧ RunQ O code.md (callVal O st b 17 (evalXs st xs) fl) d r fs st Q) := R_call 17 xs fl rfl
theorem rcall18 {O : Oracle} {st : St} {Q : Ex → St → Prop} {fs : List Fr} {d : Option Nat} {b i : Nat} {ap : List X} {r : List IOp} (xs : List X) (fl : Bool) : RunO O code.md (⟨d, .call 18 xs fl, none, b, i, ap⟩ :: r) fs st Q = (quietOk st (.call 18 xs fl) ap = true ∧ RunQ O code.md (callVal O st b 18 (evalXs st xs) fl) d r fs st Q) := R_call 18 xs fl rfl
theorem rcall19 {O : Oracle} {st : St} {Q : Ex → St → Prop} {fs : List Fr} {d : Option Nat} {b i : Nat} {ap : List X} {r : List IOp} (xs : List X) (fl : Bool) : RunO O code.md (⟨d, .call 19 xs fl, none, b, i, ap⟩ :: r) fs st Q = (quietOk st (.call 19 xs fl) ap = true ∧ RunQ O code.md (callVal O st b 19 (evalXs st xs) fl) d r fs st Q) := R_call 19 xs fl rfl
theorem rcall20 {O : Oracle} {st : St} {Q : Ex → St → Prop} {fs : List Fr} {d : Option Nat} {b i : Nat} {ap : List X} {r : List IOp} (xs : List X) (fl : Bool) : RunO O code.md (⟨d, .call 20 xs fl, none, b, i, ap⟩ :: r) fs st Q = (quietOk st (.call 20 xs fl) ap = true ∧ RunQ O code.md (callVal O st b 20 (evalXs st xs) fl) d r fs st Q) := R_call 20 xs fl rfl
theorem rcall21 {O : Oracle} {st : St} {Q : Ex → St → Prop} {fs : List Fr} {d : Option Nat} {b i : Nat} {ap : List X} {r : List IOp} (xs : List X) (fl : Bool) : RunO O code.md (⟨d, .call 21 xs fl, none, b, i, ap⟩ :: r) fs st Q = (quietOk st (.call 21 xs fl) ap = true ∧ RunQ O code.md (callVal O st b 21 (evalXs st xs) fl) d r fs st Q) := R_call 21 xs fl rfl
theorem rcall37 {O : Oracle} {st : St} {Q : Ex → St → Prop} {fs : List Fr} {d : Option Nat} {b i : Nat} {ap : List X} {r : List IOp} (xs : List X) (fl : Bool) : RunO O code.md (⟨d, .call 37 xs fl, none, b, i, ap⟩ :: r) fs st Q = (quietOk st (.call 37 xs fl) ap = true ∧ RunQ O code.md (callVal O st b 37 (evalXs st xs) fl) d r fs st Q) := R_call 37 xs fl rfl
theorem rcall38 {O : Oracle} {st : St} {Q : Ex → St → Prop} {fs : List Fr} {d : Option Nat} {b i : Nat} {ap : List X} {r : List IOp} (xs : List X) (fl : Bool) : RunO O code.md (⟨d, .call 38 xs fl, none, b, i, ap⟩ :: r) fs st Q = (quietOk st (.call 38 xs fl) ap = true ∧ RunQ O code.md (callVal O st b 38 (evalXs st xs) fl) d r fs st Q) := R_call 38 xs fl rfl
theorem rcall39 {O : Oracle} {st : St} {Q : Ex → St → Prop} {fs : List Fr} {d : Option Nat} {b i : Nat} {ap : List X} {r : List IOp} (xs : List X) (fl : Bool) : RunO O code.md (⟨d, .call 39 xs fl, none, b, i, ap⟩ :: r) fs st Q = (quietOk st (.call 39 xs fl) ap = true ∧ RunQ O code.md (callVal O st b 39 (evalXs st xs) fl) d r fs st Q) := R_call 39 xs fl rfl
theorem rcall40 {O : Oracle} {st : St} {Q : Ex → St → Prop} {fs : List Fr} {d : Option Nat} {b i : Nat} {ap : List X} {r : List IOp} (xs : List X) (fl : Bool) : RunO O code.md (⟨d, .call 40 xs fl, none, b, i, ap⟩ :: r) fs st Q = (quietOk st (.call 40 xs fl) ap = true ∧ RunQ O code.md (callVal O st b 40 (evalXs st xs) fl) d r fs st Q) := R_call 40 xs fl rfl
theorem rcall41 {O : Oracle} {st : St} {Q : Ex → St → Prop} {fs : List Fr} {d : Option Nat} {b i : Nat} {ap : List X} {r : List IOp} (xs : List X) (fl : Bool) : RunO O code.md (⟨d, .call 41 xs fl, none, b, i, ap⟩ :: r) fs st Q = (quietOk st (.call 41 xs fl) ap = true ∧ RunQ O code.md (callVal O st b 41 (evalXs st xs) fl) d r fs st Q) := R_call 41 xs fl rfl
theorem rcall42 {O : Oracle} {st : St} {Q : Ex → St → Prop} {fs : List Fr} {d : Option Nat} {b i : Nat} {ap : List X} {r : List IOp} (xs : List X) (fl : Bool) : RunO O code.md (⟨d, .call 42 xs fl, none, b, i, ap⟩ :: r) fs st Q = (quietOk st (.call 42 xs fl) ap = true ∧ RunQ O code.md (callVal O st b 42 (evalXs st xs) fl) d r fs st Q) := R_call 42 xs fl rfl
theorem rcall43 {O : Oracle} {st : St} {Q : Ex → St → Prop} {fs : List Fr} {d : Option Nat} {b i : Nat} {ap : List X} {r : List IOp} (xs : List X) (fl : Bool) : RunO O code.md (⟨d, .call 43 xs fl, none, b, i, ap⟩ :: r) fs st Q = (quietOk st (.call 43 xs fl) ap = true ∧ RunQ O code.md (callVal O st b 43 (evalXs st xs) fl) d r fs st Q) := R_call 43 xs fl rfl
theorem rcall44 {O : Oracle} {st : St} {Q : Ex → St → Prop} {fs : List Fr} {d : Option Nat} {b i : Nat} {ap : List X} {r : List IOp} (xs : List X) (fl : Bool) : RunO O code.md (⟨d, .call 44 xs fl, none, b, i, ap⟩ :: r) fs st Q = (quietOk st (.call 44 xs fl) ap = true ∧ RunQ O code.md (callVal O st b 44 (evalXs st xs) fl) d r fs st Q) := R_call 44 xs fl rfl
theorem rcall45 {O : Oracle} {st : St} {Q : Ex → St → Prop} {fs : List Fr} {d : Option Nat} {b i : Nat} {ap : List X} {r : List IOp} (xs : List X) (fl : Bool) : RunO O code.md (⟨d, .call 45 xs fl, none, b, i, ap⟩ :: r) fs st Q = (quietOk st (.call 45 xs fl) ap = true ∧ RunQ O code.md (callVal O st b 45 (evalXs st xs) fl) d r fs st Q) := R_call 45 xs fl rfl
theorem rcall46 {O : Oracle} {st : St} {Q : Ex → St → Prop} {fs : List Fr} {d : Option Nat} {b i : Nat} {ap : List X} {r : List IOp} (xs : List X) (fl : Bool) : RunO O code.md (⟨d, .call 46 xs fl, none, b, i, ap⟩ :: r) fs st Q = (quietOk st (.call 46 xs fl) ap = true ∧ RunQ O code.md (callVal O st b 46 (evalXs st xs) fl) d r fs st Q) := R_call 46 xs fl rfl
theorem rcall47 {O : Oracle} {st : St} {Q : Ex → St → Prop} {fs : List Fr} {d : Option Nat} {b i : Nat} {ap : List X} {r : List IOp} (xs : List X) (fl : Bool) : RunO O code.md (⟨d, .call 47 xs fl, none, b, i, ap⟩ :: r) fs st Q = ((apartOk st (.call 47 xs fl) ap && keyedOk st ap) = true ∧ RunK O code.md (callRef O st b 47 (evalXs st xs) fl) st (.call 47 xs fl) ap d r fs Q) := R_callr 47 xs fl rfl
theorem rcall48 {O : Oracle} {st : St} {Q : Ex → St → Prop} {fs : List Fr} {d : Option Nat} {b i : Nat} {ap : List X} {r : List IOp} (xs : List X) (fl : Bool) : RunO O code.md (⟨d, .call 48 xs fl, none, b, i, ap⟩ :: r) fs st Q = (quietOk st (.call 48 xs fl) ap = true ∧ RunQ O code.md (callVal O st b 48 (evalXs st xs) fl) d r fs st Q) := R_call 48 xs fl rfl
theorem rcall49 {O : Oracle} {st : St} {Q : Ex → St → Prop} {fs : List Fr} {d : Option Nat} {b i : Nat} {ap : List X} {r : List IOp} (xs : List X) (fl : Bool) : RunO O code.md (⟨d, .call 49 xs fl, none, b, i, ap⟩ :: r) fs st Q = (quietOk st (.call 49 xs fl) ap = true ∧ RunQ O code.md (callVal O st b 49 (evalXs st xs) fl) d r fs st Q) := R_call 49 xs fl rfl
theorem rcall50 {O : Oracle} {st : St} {Q : Ex → St → Prop} {fs : List Fr} {d : Option Nat} {b i : Nat} {ap : List X} {r : List IOp} (xs : List X) (fl : Bool) : RunO O code.md (⟨d, .call 50 xs fl, none, b, i, ap⟩ :: r) fs st Q = (quietOk st (.call 50 xs fl) ap = true ∧ RunQ O code.md (callVal O st b 50 (evalXs st xs) fl) d r fs st Q) := R_call 50 xs fl rfl
theorem rcall51 {O : Oracle} {st : St} {Q : Ex → St → Prop} {fs : List Fr} {d : Option Nat} {b i : Nat} {ap : List X} {r : List IOp} (xs : List X) (fl : Bool) : RunO O code.md (⟨d, .call 51 xs fl, none, b, i, ap⟩ :: r) fs st Q = (quietOk st (.call 51 xs fl) ap = true ∧ RunQ O code.md (callVal O st b 51 (evalXs st xs) fl) d r fs st Q) := R_call 51 xs fl rfl
theorem rcall52 {O : Oracle} {st : St} {Q : Ex → St → Prop} {fs : List Fr} {d : Option Nat} {b i : Nat} {ap : List X} {r : List IOp} (xs : List X) (fl : Bool) : RunO O code.md (⟨d, .call 52 xs fl, none, b, i, ap⟩ :: r) fs st Q = (quietOk st (.call 52 xs fl) ap = true ∧ RunQ O code.md (callVal O st b 52 (evalXs st xs) fl) d r fs st Q) := R_call 52 xs fl rfl
theorem rcall53 {O : Oracle} {st : St} {Q : Ex → St → Prop} {fs : List Fr} {d : Option Nat} {b i : Nat} {ap : List X} {r : List IOp} (xs : List X) (fl : Bool) : RunO O code.md (⟨d, .call 53 xs fl, none, b, i, ap⟩ :: r) fs st Q = (quietOk st (.call 53 xs fl) ap = true ∧ RunQ O code.md (callVal O st b 53 (evalXs st xs) fl) d r fs st Q) := R_call 53 xs fl rfl
theorem rcall54 {O : Oracle} {st : St} {Q : Ex → St → Prop} {fs : List Fr} {d : Option Nat} {b i : Nat} {ap : List X} {r : List IOp} (xs : List X) (fl : Bool) : RunO O code.md (⟨d, .call 54 xs fl, none, b, i, ap⟩ :: r) fs st Q = (quietOk st (.call 54 xs fl) ap = true ∧ RunQ O code.md (callVal O st b 54 (evalXs st xs) fl) d r fs st Q) := R_call 54 xs fl rfl
theorem rcall58 {O : Oracle} {st : St} {Q : Ex → St → Prop} {fs : List Fr} {d : Option Nat} {b i : Nat} {ap : List X} {r : List IOp} (xs : List X) (fl : Bool) : RunO O code.md (⟨d, .call 58 xs fl, none, b, i, ap⟩ :: r) fs st Q = (quietOk st (.call 58 xs fl) ap = true ∧ RunQ O code.md (callVal O st b 58 (evalXs st xs) fl) d r fs st Q) := R_call 58 xs fl rfl
theorem rcall80 {O : Oracle} {st : St} {Q : Ex → St → Prop} {fs : List Fr} {d : Option Nat} {b i : Nat} {ap : List X} {r : List IOp} (xs : List X) (fl : Bool) : RunO O code.md (⟨d, .call 80 xs fl, none, b, i, ap⟩ :: r) fs st Q = (quietOk st (.call 80 xs fl) ap = true ∧ RunQ O code.md (callVal O st b 80 (evalXs st xs) fl) d r fs st Q) := R_call 80 xs fl rfl
theorem rcall81 {O : Oracle} {st : St} {Q : Ex → St → Prop} {fs : List Fr} {d : Option Nat} {b i : Nat} {ap : List X} {r : List IOp} (xs : List X) (fl : Bool) : RunO O code.md (⟨d, .call 81 xs fl, none, b, i, ap⟩ :: r) fs st Q = (quietOk st (.call 81 xs fl) ap = true ∧ RunQ O code.md (callVal O st b 81 (evalXs st xs) fl) d r fs st Q) := R_call 81 xs fl rfl
theorem rcall82 {O : Oracle} {st : St} {Q : Ex → St → Prop} {fs : List Fr} {d : Option Nat} {b i : Nat} {ap : List X} {r : List IOp} (xs : List X) (fl : Bool) : RunO O code.md (⟨d, .call 82 xs fl, none, b, i, ap⟩ :: r) fs st Q = (quietOk st (.call 82 xs fl) ap = true ∧ RunQ O code.md (callVal O st b 82 (evalXs st xs) fl) d r fs st Q) := R_call 82 xs fl rfl
theorem rcall83 {O : Oracle} {st : St} {Q : Ex → St → Prop} {fs : List Fr} {d : Option Nat} {b i : Nat} {ap : List X} {r : List IOp} (xs : List X) (fl : Bool) : RunO O code.md (⟨d, .call 83 xs fl, none, b, i, ap⟩ :: r) fs st Q = (quietOk st (.call 83 xs fl) ap = true ∧ RunQ O code.md (callVal O st b 83 (evalXs st xs) fl) d r fs st Q) := R_call 83 xs fl rfl
theorem rcall84 {O : Oracle} {st : St} {Q : Ex → St → Prop} {fs : List Fr} {d : Option Nat} {b i : Nat} {ap : List X} {r : List IOp} (xs : List X) (fl : Bool) : RunO O code.md (⟨d, .call 84 xs fl, none, b, i, ap⟩ :: r) fs st Q = (quietOk st (.call 84 xs fl) ap = true ∧ RunQ O code.md (callVal O st b 84 (evalXs st xs) fl) d r fs st Q) := R_call 84 xs fl rfl
theorem rcall85 {O : Oracle} {st : St} {Q : Ex → St → Prop} {fs : List Fr} {d : Option Nat} {b i : Nat} {ap : List X} {r : List IOp} (xs : List X) (fl : Bool) : RunO O code.md (⟨d, .call 85 xs fl, none, b, i, ap⟩ :: r) fs st Q = (quietOk st (.call 85 xs fl) ap = true ∧ RunQ O code.md (callVal O st b 85 (evalXs st xs) fl) d r fs st Q) := R_call 85 xs fl rfl
theorem rcall107 {O : Oracle} {st : St} {Q : Ex → St → Prop} {fs : List Fr} {d : Option Nat} {b i : Nat} {ap : List X} {r : List IOp} (xs : List X) (fl : Bool) : RunO O code.md (⟨d, .call 107 xs fl, none, b, i, ap⟩ :: r) fs st Q = (quietOk st (.call 107 xs fl) ap = true ∧ RunQ O code.md (callVal O st b 107 (evalXs st xs) fl) d r fs st Q) := R_call 107 xs fl rfl
theorem rcall111 {O : Oracle} {st : St} {Q : Ex → St → Prop} {fs : List Fr} {d : Option Nat} {b i : Nat} {ap : List X} {r : List IOp} (xs : List X) (fl : Bool) : RunO O code.md (⟨d, .call 111 xs fl, none, b, i, ap⟩ :: r) fs st Q = (quietOk st (.call 111 xs fl) ap = true ∧ RunQ O code.md (callVal O st b 111 (evalXs st xs) fl) d r fs st Q) := R_call 111 xs fl rfl
theorem rcall118 {O : Oracle} {st : St} {Q : Ex → St → Prop} {fs : List Fr} {d : Option Nat} {b i : Nat} {ap : List X} {r : List IOp} (xs : List X) (fl : Bool) : RunO O code.md (⟨d, .call 118 xs fl, none, b, i, ap⟩ :: r) fs st Q = (quietOk st (.call 118 xs fl) ap = true ∧ RunQ O code.md (callVal O st b 118 (evalXs st xs) fl) d r fs st Q) := R_call 118 xs fl rfl
end Go.Ae.D1
