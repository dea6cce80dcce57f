/- The code of the functions, for the evaluator. -/
import Derived.Test.YtgmfljabhcamlaaAeL6
namespace Go.Ae.C1

def md : Nat → Mode
  | 21 => .ref
  | 39 => .ref
  | 95 => .ref
  | 134 => .ref
  | 162 => .ref
  | 175 => .ref
  | 176 => .ref
  | _ => .val
/-- loop.example/g00849/laws.FnExactShardAt -/
def F3 : F := ⟨3, 38, [.t 6],
 .seq (.reg [⟨(some 3), .box (.t 0), none, 0, 0, []⟩,
   ⟨(some 6), .mv (.k (.bool false)), none, 256, 1, []⟩])
 (.seq (.seq (.reg [⟨(some 11), .mv (.t 1), none, 65536, 0, []⟩,
   ⟨(some 12), .len true (.t 11), none, 65792, 1, []⟩,
   ⟨(some 13), .bin .gtr (.t 12) (.k (.int .i64 1048576)), none, 66048, 2, []⟩])
 (.cond (.t 13)
  (.seq (.reg [⟨(some 6), .mv (.k (.bool true)), none, 131072, 0, []⟩])
  (.ret))
  (.skip)))
 (.seq (.reg [⟨(some 15), .load 2 true (.t 3), none, 196608, 0, []⟩,
   ⟨(some 16), .call 16 [(.t 15)] true, none, 196864, 1, []⟩,
   ⟨(some 17), .mv (.t 1), none, 197120, 2, []⟩,
   ⟨(some 18), .mv (.t 2), none, 197376, 3, []⟩,
   ⟨(some 19), .call 15 [(.t 16), (.t 17), (.t 18)] true, none, 197632, 4, []⟩,
   ⟨(some 14), .mv (.t 19), none, 197888, 5, []⟩,
   ⟨(some 20), .ext (.t 14) 0, none, 198144, 6, []⟩,
   ⟨(some 21), .ext (.t 14) 1, none, 198400, 7, []⟩,
   ⟨(some 7), .mv (.t 20), none, 198656, 8, []⟩,
   ⟨(some 8), .mv (.t 21), none, 198912, 9, []⟩])
 (.seq (.reg [⟨(some 23), .load 2 true (.t 3), none, 262144, 0, []⟩,
   ⟨(some 24), .call 16 [(.t 23)] true, none, 262400, 1, []⟩,
   ⟨(some 25), .mv (.t 1), none, 262656, 2, []⟩,
   ⟨(some 26), .mv (.t 2), none, 262912, 3, []⟩,
   ⟨(some 27), .call 17 [(.t 24), (.t 25), (.t 26)] true, none, 263168, 4, []⟩,
   ⟨(some 22), .mv (.t 27), none, 263424, 5, []⟩,
   ⟨(some 28), .ext (.t 22) 0, none, 263680, 6, []⟩,
   ⟨(some 29), .ext (.t 22) 1, none, 263936, 7, []⟩,
   ⟨(some 9), .mv (.t 28), none, 264192, 8, []⟩,
   ⟨(some 10), .mv (.t 29), none, 264448, 9, []⟩])
 (.seq (.seq (.reg [⟨(some 30), .mv (.t 9), none, 327680, 0, []⟩,
   ⟨(some 31), .mv (.t 7), none, 327936, 1, []⟩,
   ⟨(some 32), .bin .neq (.t 30) (.t 31), none, 328192, 2, []⟩,
   ⟨(some 33), .mv (.t 32), none, 328448, 3, []⟩,
   ⟨(some 34), .mv (.t 10), (some (some 33, false)), 328704, 4, []⟩,
   ⟨(some 35), .mv (.t 8), (some (some 33, false)), 328960, 5, []⟩,
   ⟨(some 36), .bin .neq (.t 34) (.t 35), (some (some 33, false)), 329216, 6, []⟩,
   ⟨(some 37), .pick (.t 33) (.k (.bool true)) (.t 36), none, 329472, 7, []⟩])
 (.cond (.t 37)
  (.seq (.reg [⟨(some 6), .mv (.k (.bool false)), none, 393216, 0, []⟩])
  (.ret))
  (.skip)))
 (.seq (.reg [⟨(some 6), .mv (.k (.bool true)), none, 458752, 0, []⟩])
 (.ret))))))⟩
/-- loop.example/g00849/laws.FnExactShardsOf -/
def F4 : F := ⟨2, 74, [.t 4],
 .seq (.reg [⟨(some 2), .box (.t 0), none, 0, 0, []⟩,
   ⟨(some 4), .mv (.k (.bool false)), none, 256, 1, []⟩])
 (.seq (.seq (.reg [⟨(some 13), .mv (.t 1), none, 65536, 0, []⟩,
   ⟨(some 14), .len true (.t 13), none, 65792, 1, []⟩,
   ⟨(some 15), .bin .gtr (.t 14) (.k (.int .i64 1048576)), none, 66048, 2, []⟩])
 (.cond (.t 15)
  (.seq (.reg [⟨(some 4), .mv (.k (.bool true)), none, 131072, 0, []⟩])
  (.ret))
  (.skip)))
 (.seq (.reg [⟨(some 17), .load 2 true (.t 2), none, 196608, 0, []⟩,
   ⟨(some 18), .call 16 [(.t 17)] true, none, 196864, 1, []⟩,
   ⟨(some 19), .mv (.t 1), none, 197120, 2, []⟩,
   ⟨(some 20), .call 18 [(.t 18), (.t 19)] false, none, 197376, 3, []⟩,
   ⟨(some 16), .mv (.t 20), none, 197632, 4, []⟩,
   ⟨(some 21), .ext (.t 16) 0, none, 197888, 5, []⟩,
   ⟨(some 22), .ext (.t 16) 1, none, 198144, 6, []⟩,
   ⟨(some 5), .mv (.t 21), none, 198400, 7, []⟩,
   ⟨(some 6), .mv (.t 22), none, 198656, 8, []⟩])
 (.seq (.reg [⟨(some 24), .load 2 true (.t 2), none, 262144, 0, []⟩,
   ⟨(some 25), .call 16 [(.t 24)] true, none, 262400, 1, []⟩,
   ⟨(some 26), .mv (.t 1), none, 262656, 2, []⟩,
   ⟨(some 27), .call 19 [(.t 25), (.t 26)] false, none, 262912, 3, []⟩,
   ⟨(some 23), .mv (.t 27), none, 263168, 4, []⟩,
   ⟨(some 28), .ext (.t 23) 0, none, 263424, 5, []⟩,
   ⟨(some 29), .ext (.t 23) 1, none, 263680, 6, []⟩,
   ⟨(some 7), .mv (.t 28), none, 263936, 7, []⟩,
   ⟨(some 8), .mv (.t 29), none, 264192, 8, []⟩])
 (.seq (.seq (.reg [⟨(some 30), .mv (.t 7), none, 327680, 0, []⟩,
   ⟨(some 31), .mv (.t 5), none, 327936, 1, []⟩,
   ⟨(some 32), .call 20 [(.t 30), (.t 31)] true, none, 328192, 2, []⟩,
   ⟨(some 33), .not (.t 32), none, 328448, 3, []⟩,
   ⟨(some 34), .mv (.t 33), none, 328704, 4, []⟩,
   ⟨(some 35), .mv (.t 8), (some (some 34, false)), 328960, 5, []⟩,
   ⟨(some 36), .mv (.t 6), (some (some 34, false)), 329216, 6, []⟩,
   ⟨(some 37), .eqv true false [.b] (.t 35) (.t 36), (some (some 34, false)), 329472, 7, []⟩,
   ⟨(some 38), .pick (.t 34) (.k (.bool true)) (.t 37), none, 329728, 8, []⟩])
 (.cond (.t 38)
  (.seq (.reg [⟨(some 4), .mv (.k (.bool false)), none, 393216, 0, []⟩])
  (.ret))
  (.skip)))
 (.seq (.reg [⟨(some 9), .mv (.k (.int .i64 1)), none, 458752, 0, []⟩])
 (.seq (.reg [⟨(some 39), .mv (.t 7), none, 524288, 0, []⟩,
   ⟨(some 40), .mv (.t 9), none, 524544, 1, []⟩,
   ⟨(some 41), .call 21 [(.t 39), (.t 40)] true, none, 524800, 2, []⟩,
   ⟨(some 9), .mv (.t 41), none, 525056, 3, []⟩])
 (.seq (.reg [⟨(some 10), .mv (.k (.int .i64 1)), none, 589824, 0, []⟩])
 (.seq (.reg [⟨(some 42), .mv (.t 7), none, 655360, 0, []⟩,
   ⟨(some 43), .mv (.t 10), none, 655616, 1, []⟩,
   ⟨(some 44), .call 22 [(.t 42), (.t 43)] true, none, 655872, 2, []⟩,
   ⟨(some 10), .mv (.t 44), none, 656128, 3, []⟩])
 (.seq (.seq (.reg [⟨(some 45), .mv (.t 10), none, 720896, 0, []⟩,
   ⟨(some 46), .bin .lss (.t 45) (.k (.int .i64 0)), none, 721152, 1, []⟩])
 (.cond (.t 46)
  (.seq (.reg [⟨(some 4), .mv (.k (.bool false)), none, 786432, 0, []⟩])
  (.ret))
  (.skip)))
 (.seq (.seq (.reg [⟨(some 47), .mv (.t 10), none, 851968, 0, []⟩,
   ⟨(some 48), .mv (.t 9), none, 852224, 1, []⟩,
   ⟨(some 49), .bin .neq (.t 47) (.t 48), none, 852480, 2, []⟩])
 (.cond (.t 49)
  (.seq (.reg [⟨(some 4), .mv (.k (.bool false)), none, 917504, 0, []⟩])
  (.ret))
  (.skip)))
 (.seq (.reg [⟨(some 51), .load 2 true (.t 2), none, 983040, 0, []⟩,
   ⟨(some 52), .call 16 [(.t 51)] true, none, 983296, 1, []⟩,
   ⟨(some 53), .mv (.t 1), none, 983552, 2, []⟩,
   ⟨(some 54), .call 19 [(.t 52), (.t 53)] false, none, 983808, 3, []⟩,
   ⟨(some 50), .mv (.t 54), none, 984064, 4, []⟩,
   ⟨(some 55), .ext (.t 50) 0, none, 984320, 5, []⟩,
   ⟨(some 56), .ext (.t 50) 1, none, 984576, 6, []⟩,
   ⟨(some 11), .mv (.t 55), none, 984832, 7, []⟩,
   ⟨(some 12), .mv (.t 56), none, 985088, 8, []⟩])
 (.seq (.seq (.reg [⟨(some 57), .mv (.t 11), none, 1048576, 0, []⟩,
   ⟨(some 58), .mv (.t 5), none, 1048832, 1, []⟩,
   ⟨(some 59), .call 20 [(.t 57), (.t 58)] true, none, 1049088, 2, []⟩,
   ⟨(some 60), .not (.t 59), none, 1049344, 3, []⟩,
   ⟨(some 61), .mv (.t 60), none, 1049600, 4, []⟩,
   ⟨(some 62), .mv (.t 12), (some (some 61, false)), 1049856, 5, []⟩,
   ⟨(some 63), .mv (.t 6), (some (some 61, false)), 1050112, 6, []⟩,
   ⟨(some 64), .eqv true false [.b] (.t 62) (.t 63), (some (some 61, false)), 1050368, 7, []⟩,
   ⟨(some 65), .pick (.t 61) (.k (.bool true)) (.t 64), none, 1050624, 8, []⟩])
 (.cond (.t 65)
  (.seq (.reg [⟨(some 4), .mv (.k (.bool false)), none, 1114112, 0, []⟩])
  (.ret))
  (.skip)))
 (.seq (.reg [⟨(some 10), .mv (.k (.int .i64 1)), none, 1179648, 0, []⟩])
 (.seq (.reg [⟨(some 66), .mv (.t 7), none, 1245184, 0, []⟩,
   ⟨(some 67), .mv (.t 10), none, 1245440, 1, []⟩,
   ⟨(some 68), .call 22 [(.t 66), (.t 67)] true, none, 1245696, 2, []⟩,
   ⟨(some 10), .mv (.t 68), none, 1245952, 3, []⟩])
 (.seq (.seq (.reg [⟨(some 69), .mv (.t 10), none, 1310720, 0, []⟩,
   ⟨(some 70), .bin .lss (.t 69) (.k (.int .i64 0)), none, 1310976, 1, []⟩])
 (.cond (.t 70)
  (.seq (.reg [⟨(some 4), .mv (.k (.bool false)), none, 1376256, 0, []⟩])
  (.ret))
  (.skip)))
 (.seq (.seq (.reg [⟨(some 71), .mv (.t 10), none, 1441792, 0, []⟩,
   ⟨(some 72), .mv (.t 9), none, 1442048, 1, []⟩,
   ⟨(some 73), .bin .neq (.t 71) (.t 72), none, 1442304, 2, []⟩])
 (.cond (.t 73)
  (.seq (.reg [⟨(some 4), .mv (.k (.bool false)), none, 1507328, 0, []⟩])
  (.ret))
  (.skip)))
 (.seq (.reg [⟨(some 4), .mv (.k (.bool true)), none, 1572864, 0, []⟩])
 (.ret))))))))))))))))))⟩
/-- loop.example/g00849/laws.FnExactMatPieces -/
def F6 : F := ⟨2, 119, [.t 4],
 .seq (.reg [⟨(some 2), .box (.t 0), none, 0, 0, []⟩,
   ⟨(some 4), .mv (.k (.bool false)), none, 256, 1, []⟩])
 (.seq (.reg [⟨(some 5), .mv (.k (.int .i64 1048576)), none, 65536, 0, []⟩])
 (.seq (.reg [⟨(some 17), .load 3 true (.t 2), none, 131072, 0, []⟩,
   ⟨(some 18), .mv (.t 5), none, 131328, 1, []⟩,
   ⟨(some 19), .call 32 [(.t 17), (.t 18)] true, none, 131584, 2, []⟩,
   ⟨(some 5), .mv (.t 19), none, 131840, 3, []⟩])
 (.seq (.seq (.reg [⟨(some 20), .mv (.t 5), none, 196608, 0, []⟩,
   ⟨(some 21), .bin .lss (.t 20) (.k (.int .i64 0)), none, 196864, 1, []⟩])
 (.cond (.t 21)
  (.seq (.reg [⟨(some 4), .mv (.k (.bool true)), none, 262144, 0, []⟩])
  (.ret))
  (.skip)))
 (.seq (.reg [⟨(some 22), .mv (.t 1), none, 327680, 0, []⟩,
   ⟨(some 23), .mv (.t 5), none, 327936, 1, []⟩,
   ⟨(some 24), .call 33 [(.t 22), (.t 23)] true, none, 328192, 2, []⟩,
   ⟨(some 5), .mv (.t 24), none, 328448, 3, []⟩])
 (.seq (.seq (.reg [⟨(some 25), .mv (.t 5), none, 393216, 0, []⟩,
   ⟨(some 26), .bin .lss (.t 25) (.k (.int .i64 0)), none, 393472, 1, []⟩])
 (.cond (.t 26)
  (.seq (.reg [⟨(some 4), .mv (.k (.bool true)), none, 458752, 0, []⟩])
  (.ret))
  (.skip)))
 (.seq (.reg [⟨(some 28), .load 3 true (.t 2), none, 524288, 0, []⟩,
   ⟨(some 29), .call 35 [(.t 28)] false, none, 524544, 1, []⟩,
   ⟨(some 30), .mv (.t 1), none, 524800, 2, []⟩,
   ⟨(some 31), .call 36 [(.t 30)] false, none, 525056, 3, []⟩,
   ⟨(some 32), .call 34 [(.t 29), (.t 31)] false, none, 525312, 4, []⟩,
   ⟨(some 27), .mv (.t 32), none, 525568, 5, []⟩,
   ⟨(some 33), .ext (.t 27) 0, none, 525824, 6, []⟩,
   ⟨(some 34), .ext (.t 27) 1, none, 526080, 7, []⟩,
   ⟨(some 6), .mv (.t 33), none, 526336, 8, []⟩,
   ⟨(some 7), .mv (.t 34), none, 526592, 9, []⟩])
 (.seq (.reg [⟨(some 35), .load 3 true (.t 2), none, 589824, 0, []⟩,
   ⟨(some 36), .call 35 [(.t 35)] false, none, 590080, 1, []⟩,
   ⟨(some 8), .alloc [(.int .i64 0), (.int .i64 0), (.nil true 1)], none, 590336, 2, []⟩,
   ⟨none, .store 3 (.t 8) (.t 36), none, 590592, 3, []⟩])
 (.seq (.reg [⟨(some 37), .mv (.t 1), none, 655360, 0, []⟩,
   ⟨(some 38), .call 36 [(.t 37)] false, none, 655616, 1, []⟩,
   ⟨(some 9), .mv (.t 38), none, 655872, 2, []⟩])
 (.seq (.reg [⟨(some 40), .load 3 true (.t 8), none, 720896, 0, []⟩,
   ⟨(some 41), .mv (.t 9), none, 721152, 1, []⟩,
   ⟨(some 42), .call 37 [(.t 40), (.t 41)] false, none, 721408, 2, []⟩,
   ⟨(some 39), .mv (.t 42), none, 721664, 3, []⟩,
   ⟨(some 43), .ext (.t 39) 0, none, 721920, 4, []⟩,
   ⟨(some 44), .ext (.t 39) 1, none, 722176, 5, []⟩,
   ⟨(some 10), .mv (.t 43), none, 722432, 6, []⟩,
   ⟨(some 11), .mv (.t 44), none, 722688, 7, []⟩])
 (.seq (.seq (.reg [⟨(some 45), .mv (.t 10), none, 786432, 0, []⟩,
   ⟨(some 46), .mv (.t 6), none, 786688, 1, []⟩,
   ⟨(some 47), .call 20 [(.t 45), (.t 46)] true, none, 786944, 2, []⟩,
   ⟨(some 48), .not (.t 47), none, 787200, 3, []⟩,
   ⟨(some 49), .mv (.t 48), none, 787456, 4, []⟩,
   ⟨(some 50), .mv (.t 11), (some (some 49, false)), 787712, 5, []⟩,
   ⟨(some 51), .mv (.t 7), (some (some 49, false)), 787968, 6, []⟩,
   ⟨(some 52), .bin .neq (.t 50) (.t 51), (some (some 49, false)), 788224, 7, []⟩,
   ⟨(some 53), .pick (.t 49) (.k (.bool true)) (.t 52), none, 788480, 8, []⟩])
 (.cond (.t 53)
  (.seq (.reg [⟨(some 4), .mv (.k (.bool false)), none, 851968, 0, []⟩])
  (.ret))
  (.skip)))
 (.seq (.seq (.reg [⟨(some 54), .load 3 true (.t 8), none, 917504, 0, []⟩,
   ⟨(some 55), .load 3 true (.t 2), none, 917760, 1, []⟩,
   ⟨(some 56), .call 35 [(.t 55)] false, none, 918016, 2, []⟩,
   ⟨(some 57), .call 38 [(.t 54), (.t 56)] true, none, 918272, 3, []⟩,
   ⟨(some 58), .not (.t 57), none, 918528, 4, []⟩])
 (.cond (.t 58)
  (.seq (.reg [⟨(some 4), .mv (.k (.bool false)), none, 983040, 0, []⟩])
  (.ret))
  (.skip)))
 (.seq (.seq (.reg [⟨(some 59), .mv (.t 9), none, 1048576, 0, []⟩,
   ⟨(some 60), .mv (.t 1), none, 1048832, 1, []⟩,
   ⟨(some 61), .call 36 [(.t 60)] false, none, 1049088, 2, []⟩,
   ⟨(some 62), .call 20 [(.t 59), (.t 61)] true, none, 1049344, 3, []⟩,
   ⟨(some 63), .not (.t 62), none, 1049600, 4, []⟩])
 (.cond (.t 63)
  (.seq (.reg [⟨(some 4), .mv (.k (.bool false)), none, 1114112, 0, []⟩])
  (.ret))
  (.skip)))
 (.seq (.reg [⟨(some 12), .mv (.k (.int .i64 1)), none, 1179648, 0, []⟩])
 (.seq (.reg [⟨(some 64), .load 3 true (.t 8), none, 1245184, 0, []⟩,
   ⟨(some 65), .mv (.t 12), none, 1245440, 1, []⟩,
   ⟨(some 66), .call 39 [(.t 64), (.t 65)] true, none, 1245696, 2, []⟩,
   ⟨(some 12), .mv (.t 66), none, 1245952, 3, []⟩])
 (.seq (.reg [⟨(some 67), .mv (.t 9), none, 1310720, 0, []⟩,
   ⟨(some 68), .mv (.t 12), none, 1310976, 1, []⟩,
   ⟨(some 69), .call 21 [(.t 67), (.t 68)] true, none, 1311232, 2, []⟩,
   ⟨(some 12), .mv (.t 69), none, 1311488, 3, []⟩])
 (.seq (.seq (.reg [⟨(some 70), .mv (.t 12), none, 1376256, 0, []⟩,
   ⟨(some 71), .bin .lss (.t 70) (.k (.int .i64 0)), none, 1376512, 1, []⟩,
   ⟨(some 72), .mv (.t 71), none, 1376768, 2, []⟩,
   ⟨(some 73), .mv (.t 10), (some (some 72, false)), 1377024, 3, []⟩,
   ⟨(some 74), .mv (.t 6), (some (some 72, false)), 1377280, 4, []⟩,
   ⟨(some 75), .call 20 [(.t 73), (.t 74)] true, (some (some 72, false)), 1377536, 5, []⟩,
   ⟨(some 76), .not (.t 75), (some (some 72, false)), 1377792, 6, []⟩,
   ⟨(some 77), .pick (.t 72) (.k (.bool true)) (.t 76), none, 1378048, 7, []⟩,
   ⟨(some 78), .mv (.t 77), none, 1378304, 8, []⟩,
   ⟨(some 79), .mv (.t 11), (some (some 78, false)), 1378560, 9, []⟩,
   ⟨(some 80), .mv (.t 7), (some (some 78, false)), 1378816, 10, []⟩,
   ⟨(some 81), .bin .neq (.t 79) (.t 80), (some (some 78, false)), 1379072, 11, []⟩,
   ⟨(some 82), .pick (.t 78) (.k (.bool true)) (.t 81), none, 1379328, 12, []⟩])
 (.cond (.t 82)
  (.seq (.reg [⟨(some 4), .mv (.k (.bool false)), none, 1441792, 0, []⟩])
  (.ret))
  (.skip)))
 (.seq (.reg [⟨(some 13), .mv (.k (.int .i64 1)), none, 1507328, 0, []⟩])
 (.seq (.reg [⟨(some 83), .mv (.t 10), none, 1572864, 0, []⟩,
   ⟨(some 84), .mv (.t 13), none, 1573120, 1, []⟩,
   ⟨(some 85), .call 21 [(.t 83), (.t 84)] true, none, 1573376, 2, []⟩,
   ⟨(some 13), .mv (.t 85), none, 1573632, 3, []⟩])
 (.seq (.reg [⟨(some 14), .mv (.k (.int .i64 1)), none, 1638400, 0, []⟩])
 (.seq (.reg [⟨(some 86), .mv (.t 10), none, 1703936, 0, []⟩,
   ⟨(some 87), .mv (.t 14), none, 1704192, 1, []⟩,
   ⟨(some 88), .call 22 [(.t 86), (.t 87)] true, none, 1704448, 2, []⟩,
   ⟨(some 14), .mv (.t 88), none, 1704704, 3, []⟩])
 (.seq (.seq (.reg [⟨(some 89), .mv (.t 14), none, 1769472, 0, []⟩,
   ⟨(some 90), .bin .lss (.t 89) (.k (.int .i64 0)), none, 1769728, 1, []⟩])
 (.cond (.t 90)
  (.seq (.reg [⟨(some 4), .mv (.k (.bool false)), none, 1835008, 0, []⟩])
  (.ret))
  (.skip)))
 (.seq (.seq (.reg [⟨(some 91), .mv (.t 14), none, 1900544, 0, []⟩,
   ⟨(some 92), .mv (.t 13), none, 1900800, 1, []⟩,
   ⟨(some 93), .bin .neq (.t 91) (.t 92), none, 1901056, 2, []⟩])
 (.cond (.t 93)
  (.seq (.reg [⟨(some 4), .mv (.k (.bool false)), none, 1966080, 0, []⟩])
  (.ret))
  (.skip)))
 (.seq (.reg [⟨(some 95), .load 3 true (.t 2), none, 2031616, 0, []⟩,
   ⟨(some 96), .call 35 [(.t 95)] false, none, 2031872, 1, []⟩,
   ⟨(some 97), .mv (.t 1), none, 2032128, 2, []⟩,
   ⟨(some 98), .call 36 [(.t 97)] false, none, 2032384, 3, []⟩,
   ⟨(some 99), .call 37 [(.t 96), (.t 98)] false, none, 2032640, 4, []⟩,
   ⟨(some 94), .mv (.t 99), none, 2032896, 5, []⟩,
   ⟨(some 100), .ext (.t 94) 0, none, 2033152, 6, []⟩,
   ⟨(some 101), .ext (.t 94) 1, none, 2033408, 7, []⟩,
   ⟨(some 15), .mv (.t 100), none, 2033664, 8, []⟩,
   ⟨(some 16), .mv (.t 101), none, 2033920, 9, []⟩])
 (.seq (.seq (.reg [⟨(some 102), .mv (.t 15), none, 2097152, 0, []⟩,
   ⟨(some 103), .mv (.t 6), none, 2097408, 1, []⟩,
   ⟨(some 104), .call 20 [(.t 102), (.t 103)] true, none, 2097664, 2, []⟩,
   ⟨(some 105), .not (.t 104), none, 2097920, 3, []⟩,
   ⟨(some 106), .mv (.t 105), none, 2098176, 4, []⟩,
   ⟨(some 107), .mv (.t 16), (some (some 106, false)), 2098432, 5, []⟩,
   ⟨(some 108), .mv (.t 7), (some (some 106, false)), 2098688, 6, []⟩,
   ⟨(some 109), .bin .neq (.t 107) (.t 108), (some (some 106, false)), 2098944, 7, []⟩,
   ⟨(some 110), .pick (.t 106) (.k (.bool true)) (.t 109), none, 2099200, 8, []⟩])
 (.cond (.t 110)
  (.seq (.reg [⟨(some 4), .mv (.k (.bool false)), none, 2162688, 0, []⟩])
  (.ret))
  (.skip)))
 (.seq (.reg [⟨(some 14), .mv (.k (.int .i64 1)), none, 2228224, 0, []⟩])
 (.seq (.reg [⟨(some 111), .mv (.t 10), none, 2293760, 0, []⟩,
   ⟨(some 112), .mv (.t 14), none, 2294016, 1, []⟩,
   ⟨(some 113), .call 22 [(.t 111), (.t 112)] true, none, 2294272, 2, []⟩,
   ⟨(some 14), .mv (.t 113), none, 2294528, 3, []⟩])
 (.seq (.seq (.reg [⟨(some 114), .mv (.t 14), none, 2359296, 0, []⟩,
   ⟨(some 115), .bin .lss (.t 114) (.k (.int .i64 0)), none, 2359552, 1, []⟩])
 (.cond (.t 115)
  (.seq (.reg [⟨(some 4), .mv (.k (.bool false)), none, 2424832, 0, []⟩])
  (.ret))
  (.skip)))
 (.seq (.seq (.reg [⟨(some 116), .mv (.t 14), none, 2490368, 0, []⟩,
   ⟨(some 117), .mv (.t 13), none, 2490624, 1, []⟩,
   ⟨(some 118), .bin .neq (.t 116) (.t 117), none, 2490880, 2, []⟩])
 (.cond (.t 118)
  (.seq (.reg [⟨(some 4), .mv (.k (.bool false)), none, 2555904, 0, []⟩])
  (.ret))
  (.skip)))
 (.seq (.reg [⟨(some 4), .mv (.k (.bool true)), none, 2621440, 0, []⟩])
 (.ret))))))))))))))))))))))))))))))⟩
/-- loop.example/g00849/laws.FnAnyK -/
def F7 : F := ⟨1, 103, [.t 2],
 .seq (.reg [⟨(some 2), .mv (.k (.bool false)), none, 0, 0, []⟩])
 (.seq (.seq (.reg [⟨(some 14), .mv (.t 0), none, 65536, 0, []⟩,
   ⟨(some 15), .len false (.t 14), none, 65792, 1, []⟩,
   ⟨(some 16), .bin .gtr (.t 15) (.k (.int .i64 1048576)), none, 66048, 2, []⟩])
 (.cond (.t 16)
  (.seq (.reg [⟨(some 2), .mv (.k (.bool true)), none, 131072, 0, []⟩])
  (.ret))
  (.skip)))
 (.seq (.reg [⟨(some 17), .mv (.t 0), none, 196608, 0, []⟩,
   ⟨(some 18), .call 23 [(.t 17)] true, none, 196864, 1, []⟩,
   ⟨(some 3), .alloc [(.int .i64 0), (.int .i64 0)], none, 197120, 2, []⟩,
   ⟨none, .store 2 (.t 3) (.t 18), none, 197376, 3, []⟩])
 (.seq (.reg [⟨(some 19), .mv (.t 0), none, 262144, 0, []⟩,
   ⟨(some 20), .call 40 [(.t 19)] true, none, 262400, 1, []⟩,
   ⟨(some 4), .mv (.t 20), none, 262656, 2, []⟩])
 (.seq (.reg [⟨(some 22), .load 2 true (.t 3), none, 327680, 0, []⟩,
   ⟨(some 23), .mv (.t 4), none, 327936, 1, []⟩,
   ⟨(some 24), .call 19 [(.t 22), (.t 23)] false, none, 328192, 2, []⟩,
   ⟨(some 21), .mv (.t 24), none, 328448, 3, []⟩,
   ⟨(some 25), .ext (.t 21) 0, none, 328704, 4, []⟩,
   ⟨(some 26), .ext (.t 21) 1, none, 328960, 5, []⟩,
   ⟨(some 5), .mv (.t 25), none, 329216, 6, []⟩,
   ⟨(some 6), .mv (.t 26), none, 329472, 7, []⟩])
 (.seq (.reg [⟨(some 27), .faddr 0 (.t 3), none, 393216, 0, []⟩,
   ⟨(some 28), .load 1 false (.t 27), none, 393472, 1, []⟩,
   ⟨(some 29), .mv (.t 0), none, 393728, 2, []⟩,
   ⟨(some 30), .faddr 1 (.t 3), none, 393984, 3, []⟩,
   ⟨(some 31), .load 1 false (.t 30), none, 394240, 4, []⟩,
   ⟨(some 32), .bin .add (.t 31) (.k (.int .i64 1)), none, 394496, 5, []⟩,
   ⟨(some 33), .call 26 [(.t 29), (.k (.int .i64 1)), (.t 32)] true, none, 394752, 6, []⟩,
   ⟨(some 34), .bin .add (.t 28) (.t 33), none, 395008, 7, []⟩,
   ⟨(some 7), .mv (.t 34), none, 395264, 8, []⟩])
 (.seq (.reg [⟨(some 36), .mv (.t 5), none, 458752, 0, []⟩,
   ⟨(some 37), .mv (.t 0), none, 459008, 1, []⟩,
   ⟨(some 38), .mv (.t 7), none, 459264, 2, []⟩,
   ⟨(some 39), .faddr 0 (.t 3), none, 459520, 3, []⟩,
   ⟨(some 40), .load 1 false (.t 39), none, 459776, 4, []⟩,
   ⟨(some 41), .faddr 1 (.t 3), none, 460032, 5, []⟩,
   ⟨(some 42), .load 1 false (.t 41), none, 460288, 6, []⟩,
   ⟨(some 43), .bin .add (.t 40) (.t 42), none, 460544, 7, []⟩,
   ⟨(some 44), .call 42 [(.t 37), (.t 38), (.t 43)] false, none, 460800, 8, []⟩,
   ⟨(some 45), .call 41 [(.t 36), (.t 44)] false, none, 461056, 9, []⟩,
   ⟨(some 35), .mv (.t 45), none, 461312, 10, []⟩,
   ⟨(some 46), .ext (.t 35) 0, none, 461568, 11, []⟩,
   ⟨(some 47), .ext (.t 35) 1, none, 461824, 12, []⟩,
   ⟨(some 8), .mv (.t 46), none, 462080, 13, []⟩,
   ⟨(some 9), .mv (.t 47), none, 462336, 14, []⟩])
 (.seq (.seq (.reg [⟨(some 48), .mv (.t 6), none, 524288, 0, []⟩,
   ⟨(some 49), .not (.t 48), none, 524544, 1, []⟩,
   ⟨(some 50), .mv (.t 49), none, 524800, 2, []⟩,
   ⟨(some 51), .mv (.t 9), (some (some 50, false)), 525056, 3, []⟩,
   ⟨(some 52), .not (.t 51), (some (some 50, false)), 525312, 4, []⟩,
   ⟨(some 53), .pick (.t 50) (.k (.bool true)) (.t 52), none, 525568, 5, []⟩,
   ⟨(some 54), .mv (.t 53), none, 525824, 6, []⟩,
   ⟨(some 55), .mv (.t 5), (some (some 54, false)), 526080, 7, []⟩,
   ⟨(some 56), .len false (.t 55), (some (some 54, false)), 526336, 8, []⟩,
   ⟨(some 57), .faddr 0 (.t 3), (some (some 54, false)), 526592, 9, []⟩,
   ⟨(some 58), .load 1 false (.t 57), (some (some 54, false)), 526848, 10, []⟩,
   ⟨(some 59), .faddr 1 (.t 3), (some (some 54, false)), 527104, 11, []⟩,
   ⟨(some 60), .load 1 false (.t 59), (some (some 54, false)), 527360, 12, []⟩,
   ⟨(some 61), .bin .add (.t 58) (.t 60), (some (some 54, false)), 527616, 13, []⟩,
   ⟨(some 62), .bin .neq (.t 56) (.t 61), (some (some 54, false)), 527872, 14, []⟩,
   ⟨(some 63), .pick (.t 54) (.k (.bool true)) (.t 62), none, 528128, 15, []⟩,
   ⟨(some 64), .mv (.t 63), none, 528384, 16, []⟩,
   ⟨(some 65), .load 2 true (.t 3), (some (some 64, false)), 528640, 17, []⟩,
   ⟨(some 66), .mv (.t 4), (some (some 64, false)), 528896, 18, []⟩,
   ⟨(some 67), .len true (.t 66), (some (some 64, false)), 529152, 19, []⟩,
   ⟨(some 68), .mv (.t 8), (some (some 64, false)), 529408, 20, []⟩,
   ⟨(some 69), .call 43 [(.t 65), (.t 67), (.t 68)] true, (some (some 64, false)), 529664, 21, []⟩,
   ⟨(some 70), .not (.t 69), (some (some 64, false)), 529920, 22, []⟩,
   ⟨(some 71), .pick (.t 64) (.k (.bool true)) (.t 70), none, 530176, 23, []⟩])
 (.cond (.t 71)
  (.seq (.reg [⟨(some 2), .mv (.k (.bool false)), none, 589824, 0, []⟩])
  (.ret))
  (.skip)))
 (.seq (.reg [⟨(some 73), .load 2 true (.t 3), none, 655360, 0, []⟩,
   ⟨(some 74), .mv (.t 4), none, 655616, 1, []⟩,
   ⟨(some 75), .len true (.t 74), none, 655872, 2, []⟩,
   ⟨(some 76), .mv (.t 8), none, 656128, 3, []⟩,
   ⟨(some 77), .call 44 [(.t 73), (.t 75), (.t 76)] true, none, 656384, 4, []⟩,
   ⟨(some 72), .mv (.t 77), none, 656640, 5, []⟩,
   ⟨(some 78), .ext (.t 72) 0, none, 656896, 6, []⟩,
   ⟨(some 79), .ext (.t 72) 1, none, 657152, 7, []⟩,
   ⟨(some 10), .mv (.t 78), none, 657408, 8, []⟩,
   ⟨(some 11), .mv (.t 79), none, 657664, 9, []⟩])
 (.seq (.reg [⟨(some 81), .load 2 true (.t 3), none, 720896, 0, []⟩,
   ⟨(some 82), .mv (.t 4), none, 721152, 1, []⟩,
   ⟨(some 83), .len true (.t 82), none, 721408, 2, []⟩,
   ⟨(some 84), .mv (.t 8), none, 721664, 3, []⟩,
   ⟨(some 85), .faddr 0 (.t 3), none, 721920, 4, []⟩,
   ⟨(some 86), .load 1 false (.t 85), none, 722176, 5, []⟩,
   ⟨(some 87), .bin .sub (.t 86) (.k (.int .i64 1)), none, 722432, 6, []⟩,
   ⟨(some 88), .cut 2 (.t 84) none (some (.t 87)), none, 722688, 7, []⟩,
   ⟨(some 89), .call 44 [(.t 81), (.t 83), (.t 88)] true, none, 722944, 8, []⟩,
   ⟨(some 80), .mv (.t 89), none, 723200, 9, []⟩,
   ⟨(some 90), .ext (.t 80) 0, none, 723456, 10, []⟩,
   ⟨(some 91), .ext (.t 80) 1, none, 723712, 11, []⟩,
   ⟨(some 12), .mv (.t 90), none, 723968, 12, []⟩,
   ⟨(some 13), .mv (.t 91), none, 724224, 13, []⟩])
 (.seq (.reg [⟨(some 92), .mv (.t 11), none, 786432, 0, []⟩,
   ⟨(some 93), .bin .eql (.t 92) (.k (.int .i64 0)), none, 786688, 1, []⟩,
   ⟨(some 94), .mv (.t 93), none, 786944, 2, []⟩,
   ⟨(some 95), .mv (.t 10), (some (some 94, true)), 787200, 3, []⟩,
   ⟨(some 96), .mv (.t 4), (some (some 94, true)), 787456, 4, []⟩,
   ⟨(some 97), .bin .eql (.t 95) (.t 96), (some (some 94, true)), 787712, 5, []⟩,
   ⟨(some 98), .pick (.t 94) (.t 97) (.k (.bool false)), none, 787968, 6, []⟩,
   ⟨(some 99), .mv (.t 98), none, 788224, 7, []⟩,
   ⟨(some 100), .mv (.t 13), (some (some 99, true)), 788480, 8, []⟩,
   ⟨(some 101), .bin .eql (.t 100) (.k (.int .i64 8)), (some (some 99, true)), 788736, 9, []⟩,
   ⟨(some 102), .pick (.t 99) (.t 101) (.k (.bool false)), none, 788992, 10, []⟩,
   ⟨(some 2), .mv (.t 102), none, 789248, 11, []⟩])
 (.ret)))))))))))⟩
/-- loop.example/g00849/laws.FnRebuilt -/
def F9 : F := ⟨1, 214, [.t 2],
 .seq (.reg [⟨(some 2), .mv (.k (.bool false)), none, 0, 0, []⟩])
 (.seq (.seq (.reg [⟨(some 23), .mv (.t 0), none, 65536, 0, []⟩,
   ⟨(some 24), .len false (.t 23), none, 65792, 1, []⟩,
   ⟨(some 25), .bin .gtr (.t 24) (.k (.int .i64 1048576)), none, 66048, 2, []⟩])
 (.cond (.t 25)
  (.seq (.reg [⟨(some 2), .mv (.k (.bool true)), none, 131072, 0, []⟩])
  (.ret))
  (.skip)))
 (.seq (.reg [⟨(some 26), .mv (.t 0), none, 196608, 0, []⟩,
   ⟨(some 27), .call 23 [(.t 26)] true, none, 196864, 1, []⟩,
   ⟨(some 3), .alloc [(.int .i64 0), (.int .i64 0)], none, 197120, 2, []⟩,
   ⟨none, .store 2 (.t 3) (.t 27), none, 197376, 3, []⟩])
 (.seq (.reg [⟨(some 28), .mv (.t 0), none, 262144, 0, []⟩,
   ⟨(some 29), .call 40 [(.t 28)] true, none, 262400, 1, []⟩,
   ⟨(some 4), .mv (.t 29), none, 262656, 2, []⟩])
 (.seq (.reg [⟨(some 31), .load 2 true (.t 3), none, 327680, 0, []⟩,
   ⟨(some 32), .mv (.t 4), none, 327936, 1, []⟩,
   ⟨(some 33), .call 19 [(.t 31), (.t 32)] false, none, 328192, 2, []⟩,
   ⟨(some 30), .mv (.t 33), none, 328448, 3, []⟩,
   ⟨(some 34), .ext (.t 30) 0, none, 328704, 4, []⟩,
   ⟨(some 35), .ext (.t 30) 1, none, 328960, 5, []⟩,
   ⟨(some 5), .mv (.t 34), none, 329216, 6, []⟩,
   ⟨(some 6), .mv (.t 35), none, 329472, 7, []⟩])
 (.seq (.reg [⟨(some 37), .load 2 true (.t 3), none, 393216, 0, []⟩,
   ⟨(some 38), .mv (.t 4), none, 393472, 1, []⟩,
   ⟨(some 39), .len true (.t 38), none, 393728, 2, []⟩,
   ⟨(some 40), .call 49 [(.t 37), (.t 39)] true, none, 393984, 3, []⟩,
   ⟨(some 36), .mv (.t 40), none, 394240, 4, []⟩,
   ⟨(some 41), .ext (.t 36) 0, none, 394496, 5, []⟩,
   ⟨(some 42), .ext (.t 36) 1, none, 394752, 6, []⟩,
   ⟨(some 7), .mv (.t 41), none, 395008, 7, []⟩,
   ⟨(some 8), .mv (.t 42), none, 395264, 8, []⟩])
 (.seq (.reg [⟨(some 44), .mv (.t 5), none, 458752, 0, []⟩,
   ⟨(some 45), .mv (.t 0), none, 459008, 1, []⟩,
   ⟨(some 46), .faddr 0 (.t 3), none, 459264, 2, []⟩,
   ⟨(some 47), .load 1 false (.t 46), none, 459520, 3, []⟩,
   ⟨(some 48), .faddr 0 (.t 3), none, 459776, 4, []⟩,
   ⟨(some 49), .load 1 false (.t 48), none, 460032, 5, []⟩,
   ⟨(some 50), .faddr 1 (.t 3), none, 460288, 6, []⟩,
   ⟨(some 51), .load 1 false (.t 50), none, 460544, 7, []⟩,
   ⟨(some 52), .bin .add (.t 49) (.t 51), none, 460800, 8, []⟩,
   ⟨(some 53), .call 42 [(.t 45), (.t 47), (.t 52)] false, none, 461056, 9, []⟩,
   ⟨(some 54), .call 41 [(.t 44), (.t 53)] false, none, 461312, 10, []⟩,
   ⟨(some 43), .mv (.t 54), none, 461568, 11, []⟩,
   ⟨(some 55), .ext (.t 43) 0, none, 461824, 12, []⟩,
   ⟨(some 56), .ext (.t 43) 1, none, 462080, 13, []⟩,
   ⟨(some 9), .mv (.t 55), none, 462336, 14, []⟩,
   ⟨(some 10), .mv (.t 56), none, 462592, 15, []⟩])
 (.seq (.seq (.reg [⟨(some 57), .mv (.t 6), none, 524288, 0, []⟩,
   ⟨(some 58), .not (.t 57), none, 524544, 1, []⟩,
   ⟨(some 59), .mv (.t 58), none, 524800, 2, []⟩,
   ⟨(some 60), .mv (.t 10), (some (some 59, false)), 525056, 3, []⟩,
   ⟨(some 61), .not (.t 60), (some (some 59, false)), 525312, 4, []⟩,
   ⟨(some 62), .pick (.t 59) (.k (.bool true)) (.t 61), none, 525568, 5, []⟩,
   ⟨(some 63), .mv (.t 62), none, 525824, 6, []⟩,
   ⟨(some 64), .mv (.t 5), (some (some 63, false)), 526080, 7, []⟩,
   ⟨(some 65), .len false (.t 64), (some (some 63, false)), 526336, 8, []⟩,
   ⟨(some 66), .faddr 0 (.t 3), (some (some 63, false)), 526592, 9, []⟩,
   ⟨(some 67), .load 1 false (.t 66), (some (some 63, false)), 526848, 10, []⟩,
   ⟨(some 68), .faddr 1 (.t 3), (some (some 63, false)), 527104, 11, []⟩,
   ⟨(some 69), .load 1 false (.t 68), (some (some 63, false)), 527360, 12, []⟩,
   ⟨(some 70), .bin .add (.t 67) (.t 69), (some (some 63, false)), 527616, 13, []⟩,
   ⟨(some 71), .bin .neq (.t 65) (.t 70), (some (some 63, false)), 527872, 14, []⟩,
   ⟨(some 72), .pick (.t 63) (.k (.bool true)) (.t 71), none, 528128, 15, []⟩,
   ⟨(some 73), .mv (.t 72), none, 528384, 16, []⟩,
   ⟨(some 74), .mv (.t 8), (some (some 73, false)), 528640, 17, []⟩,
   ⟨(some 75), .bin .neq (.t 74) (.k (.int .i64 0)), (some (some 73, false)), 528896, 18, []⟩,
   ⟨(some 76), .pick (.t 73) (.k (.bool true)) (.t 75), none, 529152, 19, []⟩])
 (.cond (.t 76)
  (.seq (.reg [⟨(some 2), .mv (.k (.bool false)), none, 589824, 0, []⟩])
  (.ret))
  (.skip)))
 (.seq (.seq (.reg [⟨(some 11), .mv (.k (.int .i64 0)), none, 655360, 0, []⟩])
 (.block 0 (.loop [0, 3, 4, 5, 7, 9, 11] [197120, 197377, 197378, 328192, 328193, 328194, 328195, 461056, 461057, 461058, 461059, 461312, 461313, 461314, 461315, 1114112, 1378048, 1378304, 1442816, 1442817, 1442818, 1442819, 1706753, 1770496, 1770497, 1770498, 1770499, 1836288]
  (.seq (.seq (.reg [⟨(some 77), .mv (.t 11), none, 720896, 0, []⟩,
    ⟨(some 78), .faddr 0 (.t 3), none, 721152, 1, []⟩,
    ⟨(some 79), .load 1 false (.t 78), none, 721408, 2, []⟩,
    ⟨(some 80), .faddr 1 (.t 3), none, 721664, 3, []⟩,
    ⟨(some 81), .load 1 false (.t 80), none, 721920, 4, []⟩,
    ⟨(some 82), .bin .add (.t 79) (.t 81), none, 722176, 5, []⟩,
    ⟨(some 83), .bin .lss (.t 77) (.t 82), none, 722432, 6, []⟩])
  (.cond (.t 83)
   (.skip)
   (.exit 0)))
  (.seq (.block 1 (.seq (.reg [⟨(some 87), .load 2 true (.t 3), none, 851968, 0, []⟩,
    ⟨(some 88), .mv (.t 4), none, 852224, 1, []⟩,
    ⟨(some 89), .len true (.t 88), none, 852480, 2, []⟩,
    ⟨(some 90), .mv (.t 9), none, 852736, 3, []⟩,
    ⟨(some 91), .mv (.t 11), none, 852992, 4, []⟩,
    ⟨(some 92), .call 50 [(.t 87), (.t 89), (.t 90), (.t 91)] true, none, 853248, 5, []⟩,
    ⟨(some 86), .mv (.t 92), none, 853504, 6, []⟩,
    ⟨(some 93), .ext (.t 86) 0, none, 853760, 7, []⟩,
    ⟨(some 94), .ext (.t 86) 1, none, 854016, 8, []⟩,
    ⟨(some 12), .mv (.t 93), none, 854272, 9, []⟩,
    ⟨(some 13), .mv (.t 94), none, 854528, 10, []⟩])
  (.seq (.reg [⟨(some 96), .load 2 true (.t 3), none, 917504, 0, []⟩,
    ⟨(some 97), .mv (.t 4), none, 917760, 1, []⟩,
    ⟨(some 98), .mv (.t 11), none, 918016, 2, []⟩,
    ⟨(some 99), .call 17 [(.t 96), (.t 97), (.t 98)] true, none, 918272, 3, []⟩,
    ⟨(some 95), .mv (.t 99), none, 918528, 4, []⟩,
    ⟨(some 100), .ext (.t 95) 0, none, 918784, 5, []⟩,
    ⟨(some 101), .ext (.t 95) 1, none, 919040, 6, []⟩,
    ⟨(some 14), .mv (.t 100), none, 919296, 7, []⟩,
    ⟨(some 15), .mv (.t 101), none, 919552, 8, []⟩])
  (.seq (.reg [⟨(some 102), .mv (.t 13), none, 983040, 0, []⟩,
    ⟨(some 103), .bin .neq (.t 102) (.k (.int .i64 0)), none, 983296, 1, []⟩,
    ⟨(some 104), .mv (.t 103), none, 983552, 2, []⟩,
    ⟨(some 105), .mv (.t 12), (some (some 104, false)), 983808, 3, []⟩,
    ⟨(some 106), .mv (.t 5), (some (some 104, false)), 984064, 4, []⟩,
    ⟨(some 107), .mv (.t 11), (some (some 104, false)), 984320, 5, []⟩,
    ⟨(some 108), .iaddr 1 (.t 106) (.t 107), (some (some 104, false)), 984576, 6, []⟩,
    ⟨(some 109), .load 1 false (.t 108), (some (some 104, false)), 984832, 7, []⟩,
    ⟨(some 110), .bin .neq (.t 105) (.t 109), (some (some 104, false)), 985088, 8, []⟩,
    ⟨(some 111), .pick (.t 104) (.k (.bool true)) (.t 110), none, 985344, 9, []⟩,
    ⟨(some 112), .mv (.t 111), none, 985600, 10, []⟩,
    ⟨(some 113), .mv (.t 15), (some (some 112, false)), 985856, 11, []⟩,
    ⟨(some 114), .bin .neq (.t 113) (.k (.int .i64 0)), (some (some 112, false)), 986112, 12, []⟩,
    ⟨(some 115), .pick (.t 112) (.k (.bool true)) (.t 114), none, 986368, 13, []⟩,
    ⟨(some 116), .mv (.t 115), none, 986624, 14, []⟩,
    ⟨(some 117), .mv (.t 14), (some (some 116, false)), 986880, 15, []⟩,
    ⟨(some 118), .mv (.t 5), (some (some 116, false)), 987136, 16, []⟩,
    ⟨(some 119), .mv (.t 11), (some (some 116, false)), 987392, 17, []⟩,
    ⟨(some 120), .iaddr 1 (.t 118) (.t 119), (some (some 116, false)), 987648, 18, []⟩,
    ⟨(some 121), .load 1 false (.t 120), (some (some 116, false)), 987904, 19, []⟩,
    ⟨(some 122), .bin .neq (.t 117) (.t 121), (some (some 116, false)), 988160, 20, []⟩,
    ⟨(some 123), .pick (.t 116) (.k (.bool true)) (.t 122), none, 988416, 21, []⟩,
    ⟨(some 124), .mv (.t 123), none, 988672, 22, []⟩,
    ⟨(some 125), .mv (.t 12), (some (some 124, false)), 988928, 23, []⟩,
    ⟨(some 126), .len true (.t 125), (some (some 124, false)), 989184, 24, []⟩,
    ⟨(some 127), .mv (.t 7), (some (some 124, false)), 989440, 25, []⟩,
    ⟨(some 128), .bin .neq (.t 126) (.t 127), (some (some 124, false)), 989696, 26, []⟩,
    ⟨(some 129), .pick (.t 124) (.k (.bool true)) (.t 128), none, 989952, 27, []⟩])
  (.cond (.t 129)
   (.seq (.reg [⟨(some 2), .mv (.k (.bool false)), none, 1048576, 0, []⟩])
   (.ret))
   (.skip))))))
  (.reg [⟨(some 84), .mv (.t 11), none, 786432, 0, []⟩,
    ⟨(some 85), .bin .add (.t 84) (.k (.int .i64 1)), none, 786688, 1, []⟩,
    ⟨(some 11), .mv (.t 85), none, 786944, 2, []⟩]))))))
 (.seq (.reg [⟨(some 130), .bslice true 2 [(.int .i64 0), (.str ByteArray.empty)] 0 [], none, 1114112, 0, []⟩,
   ⟨(some 16), .mv (.t 130), none, 1114368, 1, []⟩])
 (.seq (.seq (.reg [⟨(some 17), .mv (.k (.int .i64 0)), none, 1179648, 0, []⟩])
 (.block 2 (.loop [0, 3, 4, 5, 7, 16, 17] [197120, 197377, 197378, 328192, 328193, 328194, 328195, 461056, 461057, 461058, 461059, 461312, 461313, 461314, 461315, 1114112, 1442816, 1442817, 1442818, 1442819, 1706753, 1770496, 1770497, 1770498, 1770499, 1836288]
  (.seq (.seq (.reg [⟨(some 131), .mv (.t 17), none, 1245184, 0, []⟩,
    ⟨(some 132), .faddr 0 (.t 3), none, 1245440, 1, []⟩,
    ⟨(some 133), .load 1 false (.t 132), none, 1245696, 2, []⟩,
    ⟨(some 134), .faddr 1 (.t 3), none, 1245952, 3, []⟩,
    ⟨(some 135), .load 1 false (.t 134), none, 1246208, 4, []⟩,
    ⟨(some 136), .bin .add (.t 133) (.t 135), none, 1246464, 5, []⟩,
    ⟨(some 137), .bin .lss (.t 131) (.t 136), none, 1246720, 6, []⟩])
  (.cond (.t 137)
   (.skip)
   (.exit 2)))
  (.seq (.block 3 (.reg [⟨(some 140), .mv (.t 16), none, 1376256, 0, []⟩,
    ⟨(some 141), .mv (.t 17), none, 1376512, 1, []⟩,
    ⟨(some 142), .mv (.t 5), none, 1376768, 2, []⟩,
    ⟨(some 143), .mv (.t 17), none, 1377024, 3, []⟩,
    ⟨(some 144), .iaddr 1 (.t 142) (.t 143), none, 1377280, 4, []⟩,
    ⟨(some 145), .load 1 false (.t 144), none, 1377536, 5, []⟩,
    ⟨(some 146), .build [(.int .i64 0), (.str ByteArray.empty)] [(0, 1, (.t 141)), (1, 1, (.t 145))], none, 1377792, 6, []⟩,
    ⟨(some 147), .bslice true 2 [(.int .i64 0), (.str ByteArray.empty)] 1 [(0, (.t 146))], none, 1378048, 7, []⟩,
    ⟨(some 148), .app true 2 24 (.t 140) (.t 147), none, 1378304, 8, []⟩,
    ⟨(some 16), .mv (.t 148), none, 1378560, 9, []⟩]))
  (.reg [⟨(some 138), .mv (.t 17), none, 1310720, 0, []⟩,
    ⟨(some 139), .bin .add (.t 138) (.k (.int .i64 1)), none, 1310976, 1, []⟩,
    ⟨(some 17), .mv (.t 139), none, 1311232, 2, []⟩]))))))
 (.seq (.reg [⟨(some 150), .load 2 true (.t 3), none, 1441792, 0, []⟩,
   ⟨(some 151), .mv (.t 4), none, 1442048, 1, []⟩,
   ⟨(some 152), .len true (.t 151), none, 1442304, 2, []⟩,
   ⟨(some 153), .mv (.t 16), none, 1442560, 3, []⟩,
   ⟨(some 154), .call 51 [(.t 150), (.t 152), (.t 153)] false, none, 1442816, 4, []⟩,
   ⟨(some 149), .mv (.t 154), none, 1443072, 5, []⟩,
   ⟨(some 155), .ext (.t 149) 0, none, 1443328, 6, []⟩,
   ⟨(some 156), .ext (.t 149) 1, none, 1443584, 7, []⟩,
   ⟨(some 18), .mv (.t 155), none, 1443840, 8, []⟩,
   ⟨(some 19), .mv (.t 156), none, 1444096, 9, []⟩])
 (.seq (.seq (.reg [⟨(some 157), .mv (.t 19), none, 1507328, 0, []⟩,
   ⟨(some 158), .bin .neq (.t 157) (.k (.int .i64 0)), none, 1507584, 1, []⟩,
   ⟨(some 159), .mv (.t 158), none, 1507840, 2, []⟩,
   ⟨(some 160), .mv (.t 18), (some (some 159, false)), 1508096, 3, []⟩,
   ⟨(some 161), .len false (.t 160), (some (some 159, false)), 1508352, 4, []⟩,
   ⟨(some 162), .bin .neq (.t 161) (.k (.int .i64 0)), (some (some 159, false)), 1508608, 5, []⟩,
   ⟨(some 163), .pick (.t 159) (.k (.bool true)) (.t 162), none, 1508864, 6, []⟩,
   ⟨(some 164), .mv (.t 163), none, 1509120, 7, []⟩,
   ⟨(some 165), .faddr 1 (.t 3), (some (some 164, false)), 1509376, 8, []⟩,
   ⟨(some 166), .load 1 false (.t 165), (some (some 164, false)), 1509632, 9, []⟩,
   ⟨(some 167), .bin .eql (.t 166) (.k (.int .i64 0)), (some (some 164, false)), 1509888, 10, []⟩,
   ⟨(some 168), .pick (.t 164) (.k (.bool true)) (.t 167), none, 1510144, 11, []⟩,
   ⟨(some 169), .mv (.t 168), none, 1510400, 12, []⟩,
   ⟨(some 170), .mv (.t 7), (some (some 169, false)), 1510656, 13, []⟩,
   ⟨(some 171), .bin .eql (.t 170) (.k (.int .i64 0)), (some (some 169, false)), 1510912, 14, []⟩,
   ⟨(some 172), .pick (.t 169) (.k (.bool true)) (.t 171), none, 1511168, 15, []⟩])
 (.cond (.t 172)
  (.seq (.reg [⟨(some 173), .mv (.t 19), none, 1572864, 0, []⟩,
    ⟨(some 174), .bin .eql (.t 173) (.k (.int .i64 0)), none, 1573120, 1, []⟩,
    ⟨(some 175), .mv (.t 174), none, 1573376, 2, []⟩,
    ⟨(some 176), .mv (.t 18), (some (some 175, true)), 1573632, 3, []⟩,
    ⟨(some 177), .len false (.t 176), (some (some 175, true)), 1573888, 4, []⟩,
    ⟨(some 178), .bin .eql (.t 177) (.k (.int .i64 0)), (some (some 175, true)), 1574144, 5, []⟩,
    ⟨(some 179), .pick (.t 175) (.t 178) (.k (.bool false)), none, 1574400, 6, []⟩,
    ⟨(some 2), .mv (.t 179), none, 1574656, 7, []⟩])
  (.ret))
  (.skip)))
 (.seq (.reg [⟨(some 180), .faddr 0 (.t 3), none, 1638400, 0, []⟩,
   ⟨(some 181), .load 1 false (.t 180), none, 1638656, 1, []⟩,
   ⟨(some 182), .mv (.t 0), none, 1638912, 2, []⟩,
   ⟨(some 183), .faddr 1 (.t 3), none, 1639168, 3, []⟩,
   ⟨(some 184), .load 1 false (.t 183), none, 1639424, 4, []⟩,
   ⟨(some 185), .call 26 [(.t 182), (.k (.int .i64 4)), (.t 184)] true, none, 1639680, 5, []⟩,
   ⟨(some 186), .bin .add (.t 181) (.t 185), none, 1639936, 6, []⟩,
   ⟨(some 20), .mv (.t 186), none, 1640192, 7, []⟩])
 (.seq (.reg [⟨(some 187), .mv (.t 16), none, 1703936, 0, []⟩,
   ⟨(some 188), .mv (.t 20), none, 1704192, 1, []⟩,
   ⟨(some 189), .mv (.t 16), none, 1704448, 2, []⟩,
   ⟨(some 190), .mv (.t 20), none, 1704704, 3, []⟩,
   ⟨(some 191), .iaddr 2 (.t 189) (.t 190), none, 1704960, 4, []⟩,
   ⟨(some 192), .faddr 1 (.t 191), none, 1705216, 5, []⟩,
   ⟨(some 193), .load 1 false (.t 192), none, 1705472, 6, []⟩,
   ⟨(some 194), .mv (.t 0), none, 1705728, 7, []⟩,
   ⟨(some 195), .call 52 [(.t 193), (.t 194)] true, none, 1705984, 8, []⟩,
   ⟨(some 196), .iaddr 2 (.t 187) (.t 188), none, 1706240, 9, []⟩,
   ⟨(some 197), .faddr 1 (.t 196), none, 1706496, 10, []⟩,
   ⟨none, .store 1 (.t 197) (.t 195), none, 1706752, 11, []⟩])
 (.seq (.reg [⟨(some 199), .load 2 true (.t 3), none, 1769472, 0, []⟩,
   ⟨(some 200), .mv (.t 4), none, 1769728, 1, []⟩,
   ⟨(some 201), .len true (.t 200), none, 1769984, 2, []⟩,
   ⟨(some 202), .mv (.t 16), none, 1770240, 3, []⟩,
   ⟨(some 203), .call 51 [(.t 199), (.t 201), (.t 202)] false, none, 1770496, 4, []⟩,
   ⟨(some 198), .mv (.t 203), none, 1770752, 5, []⟩,
   ⟨(some 204), .ext (.t 198) 0, none, 1771008, 6, []⟩,
   ⟨(some 205), .ext (.t 198) 1, none, 1771264, 7, []⟩,
   ⟨(some 21), .mv (.t 204), none, 1771520, 8, []⟩,
   ⟨(some 22), .mv (.t 205), none, 1771776, 9, []⟩])
 (.seq (.reg [⟨(some 206), .mv (.t 22), none, 1835008, 0, []⟩,
   ⟨(some 207), .bin .eql (.t 206) (.k (.int .i64 0)), none, 1835264, 1, []⟩,
   ⟨(some 208), .mv (.t 207), none, 1835520, 2, []⟩,
   ⟨(some 209), .mv (.t 21), (some (some 208, true)), 1835776, 3, []⟩,
   ⟨(some 210), .mv (.t 20), (some (some 208, true)), 1836032, 4, []⟩,
   ⟨(some 211), .bslice true 1 [(.int .i64 0)] 1 [(0, (.t 210))], (some (some 208, true)), 1836288, 5, []⟩,
   ⟨(some 212), .call 53 [(.t 209), (.t 211)] true, (some (some 208, true)), 1836544, 6, []⟩,
   ⟨(some 213), .pick (.t 208) (.t 212) (.k (.bool false)), none, 1836800, 7, []⟩,
   ⟨(some 2), .mv (.t 213), none, 1837056, 8, []⟩])
 (.ret)))))))))))))))))⟩
/-- loop.example/g00849/laws.FnExactRebuild -/
def F13 : F := ⟨4, 54, [.t 8],
 .seq (.reg [⟨(some 4), .box (.t 0), none, 0, 0, []⟩,
   ⟨(some 8), .mv (.k (.bool false)), none, 256, 1, []⟩])
 (.seq (.reg [⟨(some 9), .mv (.k (.int .i64 1048576)), none, 65536, 0, []⟩])
 (.seq (.reg [⟨(some 15), .mv (.t 2), none, 131072, 0, []⟩,
   ⟨(some 16), .mv (.t 9), none, 131328, 1, []⟩,
   ⟨(some 17), .call 64 [(.t 15), (.t 16)] true, none, 131584, 2, []⟩,
   ⟨(some 9), .mv (.t 17), none, 131840, 3, []⟩])
 (.seq (.seq (.reg [⟨(some 18), .mv (.t 9), none, 196608, 0, []⟩,
   ⟨(some 19), .bin .lss (.t 18) (.k (.int .i64 0)), none, 196864, 1, []⟩])
 (.cond (.t 19)
  (.seq (.reg [⟨(some 8), .mv (.k (.bool true)), none, 262144, 0, []⟩])
  (.ret))
  (.skip)))
 (.seq (.reg [⟨(some 21), .load 2 true (.t 4), none, 327680, 0, []⟩,
   ⟨(some 22), .call 16 [(.t 21)] true, none, 327936, 1, []⟩,
   ⟨(some 23), .mv (.t 1), none, 328192, 2, []⟩,
   ⟨(some 24), .mv (.t 2), none, 328448, 3, []⟩,
   ⟨(some 25), .call 66 [(.t 24)] false, none, 328704, 4, []⟩,
   ⟨(some 26), .mv (.t 3), none, 328960, 5, []⟩,
   ⟨(some 27), .call 65 [(.t 22), (.t 23), (.t 25), (.t 26)] true, none, 329216, 6, []⟩,
   ⟨(some 20), .mv (.t 27), none, 329472, 7, []⟩,
   ⟨(some 28), .ext (.t 20) 0, none, 329728, 8, []⟩,
   ⟨(some 29), .ext (.t 20) 1, none, 329984, 9, []⟩,
   ⟨(some 10), .mv (.t 28), none, 330240, 10, []⟩,
   ⟨(some 11), .mv (.t 29), none, 330496, 11, []⟩])
 (.seq (.reg [⟨(some 30), .mv (.t 2), none, 393216, 0, []⟩,
   ⟨(some 31), .call 66 [(.t 30)] false, none, 393472, 1, []⟩,
   ⟨(some 12), .mv (.t 31), none, 393728, 2, []⟩])
 (.seq (.reg [⟨(some 33), .load 2 true (.t 4), none, 458752, 0, []⟩,
   ⟨(some 34), .call 16 [(.t 33)] true, none, 459008, 1, []⟩,
   ⟨(some 35), .mv (.t 1), none, 459264, 2, []⟩,
   ⟨(some 36), .mv (.t 12), none, 459520, 3, []⟩,
   ⟨(some 37), .mv (.t 3), none, 459776, 4, []⟩,
   ⟨(some 38), .call 50 [(.t 34), (.t 35), (.t 36), (.t 37)] true, none, 460032, 5, []⟩,
   ⟨(some 32), .mv (.t 38), none, 460288, 6, []⟩,
   ⟨(some 39), .ext (.t 32) 0, none, 460544, 7, []⟩,
   ⟨(some 40), .ext (.t 32) 1, none, 460800, 8, []⟩,
   ⟨(some 13), .mv (.t 39), none, 461056, 9, []⟩,
   ⟨(some 14), .mv (.t 40), none, 461312, 10, []⟩])
 (.seq (.seq (.reg [⟨(some 41), .mv (.t 13), none, 524288, 0, []⟩,
   ⟨(some 42), .mv (.t 10), none, 524544, 1, []⟩,
   ⟨(some 43), .bin .neq (.t 41) (.t 42), none, 524800, 2, []⟩,
   ⟨(some 44), .mv (.t 43), none, 525056, 3, []⟩,
   ⟨(some 45), .mv (.t 14), (some (some 44, false)), 525312, 4, []⟩,
   ⟨(some 46), .mv (.t 11), (some (some 44, false)), 525568, 5, []⟩,
   ⟨(some 47), .bin .neq (.t 45) (.t 46), (some (some 44, false)), 525824, 6, []⟩,
   ⟨(some 48), .pick (.t 44) (.k (.bool true)) (.t 47), none, 526080, 7, []⟩])
 (.cond (.t 48)
  (.seq (.reg [⟨(some 8), .mv (.k (.bool false)), none, 589824, 0, []⟩])
  (.ret))
  (.skip)))
 (.seq (.seq (.reg [⟨(some 49), .mv (.t 12), none, 655360, 0, []⟩,
   ⟨(some 50), .mv (.t 2), none, 655616, 1, []⟩,
   ⟨(some 51), .call 66 [(.t 50)] false, none, 655872, 2, []⟩,
   ⟨(some 52), .call 67 [(.t 49), (.t 51)] true, none, 656128, 3, []⟩,
   ⟨(some 53), .not (.t 52), none, 656384, 4, []⟩])
 (.cond (.t 53)
  (.seq (.reg [⟨(some 8), .mv (.k (.bool false)), none, 720896, 0, []⟩])
  (.ret))
  (.skip)))
 (.seq (.reg [⟨(some 8), .mv (.k (.bool true)), none, 786432, 0, []⟩])
 (.ret))))))))))⟩
/-- loop.example/g00849/laws.FnExactBodyOf -/
def F14 : F := ⟨3, 50, [.t 6],
 .seq (.reg [⟨(some 3), .box (.t 0), none, 0, 0, []⟩,
   ⟨(some 6), .mv (.k (.bool false)), none, 256, 1, []⟩])
 (.seq (.reg [⟨(some 7), .mv (.k (.int .i64 1048576)), none, 65536, 0, []⟩])
 (.seq (.reg [⟨(some 13), .mv (.t 2), none, 131072, 0, []⟩,
   ⟨(some 14), .mv (.t 7), none, 131328, 1, []⟩,
   ⟨(some 15), .call 64 [(.t 13), (.t 14)] true, none, 131584, 2, []⟩,
   ⟨(some 7), .mv (.t 15), none, 131840, 3, []⟩])
 (.seq (.seq (.reg [⟨(some 16), .mv (.t 7), none, 196608, 0, []⟩,
   ⟨(some 17), .bin .lss (.t 16) (.k (.int .i64 0)), none, 196864, 1, []⟩])
 (.cond (.t 17)
  (.seq (.reg [⟨(some 6), .mv (.k (.bool true)), none, 262144, 0, []⟩])
  (.ret))
  (.skip)))
 (.seq (.reg [⟨(some 19), .load 2 true (.t 3), none, 327680, 0, []⟩,
   ⟨(some 20), .call 16 [(.t 19)] true, none, 327936, 1, []⟩,
   ⟨(some 21), .mv (.t 1), none, 328192, 2, []⟩,
   ⟨(some 22), .mv (.t 2), none, 328448, 3, []⟩,
   ⟨(some 23), .call 66 [(.t 22)] false, none, 328704, 4, []⟩,
   ⟨(some 24), .call 68 [(.t 20), (.t 21), (.t 23)] true, none, 328960, 5, []⟩,
   ⟨(some 18), .mv (.t 24), none, 329216, 6, []⟩,
   ⟨(some 25), .ext (.t 18) 0, none, 329472, 7, []⟩,
   ⟨(some 26), .ext (.t 18) 1, none, 329728, 8, []⟩,
   ⟨(some 8), .mv (.t 25), none, 329984, 9, []⟩,
   ⟨(some 9), .mv (.t 26), none, 330240, 10, []⟩])
 (.seq (.reg [⟨(some 27), .mv (.t 2), none, 393216, 0, []⟩,
   ⟨(some 28), .call 66 [(.t 27)] false, none, 393472, 1, []⟩,
   ⟨(some 10), .mv (.t 28), none, 393728, 2, []⟩])
 (.seq (.reg [⟨(some 30), .load 2 true (.t 3), none, 458752, 0, []⟩,
   ⟨(some 31), .call 16 [(.t 30)] true, none, 459008, 1, []⟩,
   ⟨(some 32), .mv (.t 1), none, 459264, 2, []⟩,
   ⟨(some 33), .mv (.t 10), none, 459520, 3, []⟩,
   ⟨(some 34), .call 44 [(.t 31), (.t 32), (.t 33)] true, none, 459776, 4, []⟩,
   ⟨(some 29), .mv (.t 34), none, 460032, 5, []⟩,
   ⟨(some 35), .ext (.t 29) 0, none, 460288, 6, []⟩,
   ⟨(some 36), .ext (.t 29) 1, none, 460544, 7, []⟩,
   ⟨(some 11), .mv (.t 35), none, 460800, 8, []⟩,
   ⟨(some 12), .mv (.t 36), none, 461056, 9, []⟩])
 (.seq (.seq (.reg [⟨(some 37), .mv (.t 11), none, 524288, 0, []⟩,
   ⟨(some 38), .mv (.t 8), none, 524544, 1, []⟩,
   ⟨(some 39), .bin .neq (.t 37) (.t 38), none, 524800, 2, []⟩,
   ⟨(some 40), .mv (.t 39), none, 525056, 3, []⟩,
   ⟨(some 41), .mv (.t 12), (some (some 40, false)), 525312, 4, []⟩,
   ⟨(some 42), .mv (.t 9), (some (some 40, false)), 525568, 5, []⟩,
   ⟨(some 43), .bin .neq (.t 41) (.t 42), (some (some 40, false)), 525824, 6, []⟩,
   ⟨(some 44), .pick (.t 40) (.k (.bool true)) (.t 43), none, 526080, 7, []⟩])
 (.cond (.t 44)
  (.seq (.reg [⟨(some 6), .mv (.k (.bool false)), none, 589824, 0, []⟩])
  (.ret))
  (.skip)))
 (.seq (.seq (.reg [⟨(some 45), .mv (.t 10), none, 655360, 0, []⟩,
   ⟨(some 46), .mv (.t 2), none, 655616, 1, []⟩,
   ⟨(some 47), .call 66 [(.t 46)] false, none, 655872, 2, []⟩,
   ⟨(some 48), .call 67 [(.t 45), (.t 47)] true, none, 656128, 3, []⟩,
   ⟨(some 49), .not (.t 48), none, 656384, 4, []⟩])
 (.cond (.t 49)
  (.seq (.reg [⟨(some 6), .mv (.k (.bool false)), none, 720896, 0, []⟩])
  (.ret))
  (.skip)))
 (.seq (.reg [⟨(some 6), .mv (.k (.bool true)), none, 786432, 0, []⟩])
 (.ret))))))))))⟩
/-- loop.example/g00849/spec.ShardAt -/
def F15 : F := ⟨3, 29, [.t 6, .t 7],
 .seq (.reg [⟨(some 3), .box (.t 0), none, 0, 0, []⟩,
   ⟨(some 6), .mv (.k (.str ByteArray.empty)), none, 256, 1, []⟩,
   ⟨(some 7), .mv (.k (.int .i64 0)), none, 512, 2, []⟩])
 (.seq (.seq (.reg [⟨(some 8), .load 2 true (.t 3), none, 65536, 0, []⟩,
   ⟨(some 9), .call 69 [(.t 8)] true, none, 65792, 1, []⟩,
   ⟨(some 10), .not (.t 9), none, 66048, 2, []⟩])
 (.cond (.t 10)
  (.seq (.reg [⟨(some 6), .mv (.k (.str ByteArray.empty)), none, 131072, 0, []⟩,
    ⟨(some 7), .mv (.k (.int .i64 1)), none, 131328, 1, []⟩])
  (.ret))
  (.skip)))
 (.seq (.seq (.reg [⟨(some 11), .mv (.t 1), none, 196608, 0, []⟩,
   ⟨(some 12), .len true (.t 11), none, 196864, 1, []⟩,
   ⟨(some 13), .bin .gtr (.t 12) (.k (.int .i64 64)), none, 197120, 2, []⟩])
 (.cond (.t 13)
  (.seq (.reg [⟨(some 6), .mv (.k (.str ByteArray.empty)), none, 262144, 0, []⟩,
    ⟨(some 7), .mv (.k (.int .i64 4)), none, 262400, 1, []⟩])
  (.ret))
  (.skip)))
 (.seq (.seq (.reg [⟨(some 14), .mv (.t 2), none, 327680, 0, []⟩,
   ⟨(some 15), .faddr 0 (.t 3), none, 327936, 1, []⟩,
   ⟨(some 16), .load 1 false (.t 15), none, 328192, 2, []⟩,
   ⟨(some 17), .faddr 1 (.t 3), none, 328448, 3, []⟩,
   ⟨(some 18), .load 1 false (.t 17), none, 328704, 4, []⟩,
   ⟨(some 19), .bin .add (.t 16) (.t 18), none, 328960, 5, []⟩,
   ⟨(some 20), .bin .sub (.t 19) (.k (.int .i64 1)), none, 329216, 6, []⟩,
   ⟨(some 21), .call 70 [(.t 14), (.k (.int .i64 0)), (.t 20)] true, none, 329472, 7, []⟩,
   ⟨(some 22), .not (.t 21), none, 329728, 8, []⟩])
 (.cond (.t 22)
  (.seq (.reg [⟨(some 6), .mv (.k (.str ByteArray.empty)), none, 393216, 0, []⟩,
    ⟨(some 7), .mv (.k (.int .i64 2)), none, 393472, 1, []⟩])
  (.ret))
  (.skip)))
 (.seq (.reg [⟨(some 23), .load 2 true (.t 3), none, 458752, 0, []⟩,
   ⟨(some 24), .mv (.t 1), none, 459008, 1, []⟩,
   ⟨(some 25), .call 71 [(.t 23), (.t 24)] false, none, 459264, 2, []⟩,
   ⟨(some 26), .mv (.t 2), none, 459520, 3, []⟩,
   ⟨(some 27), .iaddr 1 (.t 25) (.t 26), none, 459776, 4, []⟩,
   ⟨(some 28), .load 1 false (.t 27), none, 460032, 5, []⟩,
   ⟨(some 6), .mv (.t 28), none, 460288, 6, []⟩,
   ⟨(some 7), .mv (.k (.int .i64 0)), none, 460544, 7, []⟩])
 (.ret)))))⟩
/-- loop.example/g00849/laws.toCode -/
def F16 : F := ⟨1, 11, [.cell 2 2 true],
 .seq (.reg [⟨(some 1), .box (.t 0), none, 0, 0, []⟩,
   ⟨(some 2), .alloc [(.int .i64 0), (.int .i64 0)], none, 256, 1, []⟩])
 (.seq (.reg [⟨(some 3), .alloc [(.int .i64 0), (.int .i64 0)], none, 65536, 0, []⟩])
 (.seq (.reg [⟨(some 4), .faddr 0 (.t 1), none, 131072, 0, []⟩,
   ⟨(some 5), .load 1 false (.t 4), none, 131328, 1, []⟩,
   ⟨(some 6), .faddr 0 (.t 3), none, 131584, 2, []⟩,
   ⟨none, .store 1 (.t 6) (.t 5), none, 131840, 3, []⟩])
 (.seq (.reg [⟨(some 7), .faddr 1 (.t 1), none, 196608, 0, []⟩,
   ⟨(some 8), .load 1 false (.t 7), none, 196864, 1, []⟩,
   ⟨(some 9), .faddr 1 (.t 3), none, 197120, 2, []⟩,
   ⟨none, .store 1 (.t 9) (.t 8), none, 197376, 3, []⟩])
 (.seq (.reg [⟨(some 10), .load 2 true (.t 3), none, 262144, 0, []⟩,
   ⟨none, .store 2 (.t 2) (.t 10), none, 262400, 1, []⟩])
 (.ret)))))⟩
/-- loop.example/g00849/impl.ShardAt -/
def F17 : F := ⟨3, 27, [.t 6, .t 7],
 .seq (.reg [⟨(some 3), .box (.t 0), none, 0, 0, []⟩,
   ⟨(some 6), .mv (.k (.str ByteArray.empty)), none, 256, 1, []⟩,
   ⟨(some 7), .mv (.k (.int .i64 0)), none, 512, 2, []⟩])
 (.seq (.block 0 (.seq (.reg [⟨(some 9), .load 2 true (.t 3), none, 65536, 0, []⟩,
   ⟨(some 10), .call 72 [(.t 9)] true, none, 65792, 1, []⟩,
   ⟨(some 11), .not (.t 10), none, 66048, 2, []⟩,
   ⟨(some 8), .mv (.t 11), none, 66304, 3, []⟩])
 (.cond (.t 8)
  (.seq (.reg [⟨(some 6), .mv (.k (.str ByteArray.empty)), none, 131072, 0, []⟩,
    ⟨(some 7), .mv (.k (.int .i64 1)), none, 131328, 1, []⟩])
  (.ret))
  (.seq (.reg [⟨(some 13), .mv (.t 1), none, 196608, 0, []⟩,
    ⟨(some 14), .len true (.t 13), none, 196864, 1, []⟩,
    ⟨(some 15), .bin .gtr (.t 14) (.k (.int .i64 64)), none, 197120, 2, []⟩,
    ⟨(some 12), .mv (.t 15), none, 197376, 3, []⟩])
  (.cond (.t 12)
   (.seq (.reg [⟨(some 6), .mv (.k (.str ByteArray.empty)), none, 262144, 0, []⟩,
     ⟨(some 7), .mv (.k (.int .i64 4)), none, 262400, 1, []⟩])
   (.ret))
   (.seq (.reg [⟨(some 17), .load 2 true (.t 3), none, 327680, 0, []⟩,
     ⟨(some 18), .mv (.t 2), none, 327936, 1, []⟩,
     ⟨(some 19), .call 73 [(.t 17), (.t 18)] true, none, 328192, 2, []⟩,
     ⟨(some 20), .not (.t 19), none, 328448, 3, []⟩,
     ⟨(some 16), .mv (.t 20), none, 328704, 4, []⟩])
   (.cond (.t 16)
    (.seq (.reg [⟨(some 6), .mv (.k (.str ByteArray.empty)), none, 393216, 0, []⟩,
      ⟨(some 7), .mv (.k (.int .i64 2)), none, 393472, 1, []⟩])
    (.ret))
    (.skip))))))))
 (.seq (.reg [⟨(some 21), .load 2 true (.t 3), none, 458752, 0, []⟩,
   ⟨(some 22), .mv (.t 1), none, 459008, 1, []⟩,
   ⟨(some 23), .call 74 [(.t 21), (.t 22)] false, none, 459264, 2, []⟩,
   ⟨(some 24), .mv (.t 2), none, 459520, 3, []⟩,
   ⟨(some 25), .iaddr 1 (.t 23) (.t 24), none, 459776, 4, []⟩,
   ⟨(some 26), .load 1 false (.t 25), none, 460032, 5, []⟩,
   ⟨(some 6), .mv (.t 26), none, 460288, 6, []⟩,
   ⟨(some 7), .mv (.k (.int .i64 0)), none, 460544, 7, []⟩])
 (.ret)))⟩
/-- loop.example/g00849/spec.ShardsOf -/
def F18 : F := ⟨2, 18, [.t 4, .t 5],
 .seq (.reg [⟨(some 2), .box (.t 0), none, 0, 0, []⟩,
   ⟨(some 4), .nil0 true 1, none, 256, 1, []⟩,
   ⟨(some 5), .mv (.k (.bool false)), none, 512, 2, []⟩])
 (.seq (.seq (.reg [⟨(some 6), .load 2 true (.t 2), none, 65536, 0, []⟩,
   ⟨(some 7), .call 69 [(.t 6)] true, none, 65792, 1, []⟩,
   ⟨(some 8), .not (.t 7), none, 66048, 2, []⟩,
   ⟨(some 9), .mv (.t 8), none, 66304, 3, []⟩,
   ⟨(some 10), .mv (.t 1), (some (some 9, false)), 66560, 4, []⟩,
   ⟨(some 11), .len true (.t 10), (some (some 9, false)), 66816, 5, []⟩,
   ⟨(some 12), .bin .gtr (.t 11) (.k (.int .i64 64)), (some (some 9, false)), 67072, 6, []⟩,
   ⟨(some 13), .pick (.t 9) (.k (.bool true)) (.t 12), none, 67328, 7, []⟩])
 (.cond (.t 13)
  (.seq (.reg [⟨(some 14), .bslice true 1 [(.str ByteArray.empty)] 0 [], none, 131072, 0, []⟩,
    ⟨(some 4), .mv (.t 14), none, 131328, 1, []⟩,
    ⟨(some 5), .mv (.k (.bool false)), none, 131584, 2, []⟩])
  (.ret))
  (.skip)))
 (.seq (.reg [⟨(some 15), .load 2 true (.t 2), none, 196608, 0, []⟩,
   ⟨(some 16), .mv (.t 1), none, 196864, 1, []⟩,
   ⟨(some 17), .call 71 [(.t 15), (.t 16)] false, none, 197120, 2, []⟩,
   ⟨(some 4), .mv (.t 17), none, 197376, 3, []⟩,
   ⟨(some 5), .mv (.k (.bool true)), none, 197632, 4, []⟩])
 (.ret)))⟩
/-- loop.example/g00849/impl.ShardsOf -/
def F19 : F := ⟨2, 17, [.t 4, .t 5],
 .seq (.reg [⟨(some 2), .box (.t 0), none, 0, 0, []⟩,
   ⟨(some 4), .nil0 true 1, none, 256, 1, []⟩,
   ⟨(some 5), .mv (.k (.bool false)), none, 512, 2, []⟩])
 (.seq (.seq (.reg [⟨(some 6), .load 2 true (.t 2), none, 65536, 0, []⟩,
   ⟨(some 7), .call 72 [(.t 6)] true, none, 65792, 1, []⟩,
   ⟨(some 8), .not (.t 7), none, 66048, 2, []⟩,
   ⟨(some 9), .mv (.t 8), none, 66304, 3, []⟩,
   ⟨(some 10), .mv (.t 1), (some (some 9, false)), 66560, 4, []⟩,
   ⟨(some 11), .len true (.t 10), (some (some 9, false)), 66816, 5, []⟩,
   ⟨(some 12), .bin .gtr (.t 11) (.k (.int .i64 64)), (some (some 9, false)), 67072, 6, []⟩,
   ⟨(some 13), .pick (.t 9) (.k (.bool true)) (.t 12), none, 67328, 7, []⟩])
 (.cond (.t 13)
  (.seq (.reg [⟨(some 4), .nil0 true 1, none, 131072, 0, []⟩,
    ⟨(some 5), .mv (.k (.bool false)), none, 131328, 1, []⟩])
  (.ret))
  (.skip)))
 (.seq (.reg [⟨(some 14), .load 2 true (.t 2), none, 196608, 0, []⟩,
   ⟨(some 15), .mv (.t 1), none, 196864, 1, []⟩,
   ⟨(some 16), .call 74 [(.t 14), (.t 15)] false, none, 197120, 2, []⟩,
   ⟨(some 4), .mv (.t 16), none, 197376, 3, []⟩,
   ⟨(some 5), .mv (.k (.bool true)), none, 197632, 4, []⟩])
 (.ret)))⟩
/-- loop.example/g00849/laws.eqStringS -/
def F20 : F := ⟨2, 26, [.t 4],
 .seq (.reg [⟨(some 4), .mv (.k (.bool false)), none, 0, 0, []⟩])
 (.seq (.seq (.reg [⟨(some 6), .mv (.t 0), none, 65536, 0, []⟩,
   ⟨(some 7), .len false (.t 6), none, 65792, 1, []⟩,
   ⟨(some 8), .mv (.t 1), none, 66048, 2, []⟩,
   ⟨(some 9), .len false (.t 8), none, 66304, 3, []⟩,
   ⟨(some 10), .bin .neq (.t 7) (.t 9), none, 66560, 4, []⟩])
 (.cond (.t 10)
  (.seq (.reg [⟨(some 4), .mv (.k (.bool false)), none, 131072, 0, []⟩])
  (.ret))
  (.skip)))
 (.seq (.seq (.reg [⟨(some 5), .mv (.k (.int .i64 0)), none, 196608, 0, []⟩])
 (.block 0 (.loop [0, 1, 5] []
  (.seq (.seq (.reg [⟨(some 11), .mv (.t 5), none, 262144, 0, []⟩,
    ⟨(some 12), .mv (.t 0), none, 262400, 1, []⟩,
    ⟨(some 13), .len false (.t 12), none, 262656, 2, []⟩,
    ⟨(some 14), .bin .lss (.t 11) (.t 13), none, 262912, 3, []⟩])
  (.cond (.t 14)
   (.skip)
   (.exit 0)))
  (.seq (.block 1 (.seq (.reg [⟨(some 17), .mv (.t 0), none, 393216, 0, []⟩,
    ⟨(some 18), .mv (.t 5), none, 393472, 1, []⟩,
    ⟨(some 19), .iaddr 1 (.t 17) (.t 18), none, 393728, 2, []⟩,
    ⟨(some 20), .load 1 false (.t 19), none, 393984, 3, []⟩,
    ⟨(some 21), .mv (.t 1), none, 394240, 4, []⟩,
    ⟨(some 22), .mv (.t 5), none, 394496, 5, []⟩,
    ⟨(some 23), .iaddr 1 (.t 21) (.t 22), none, 394752, 6, []⟩,
    ⟨(some 24), .load 1 false (.t 23), none, 395008, 7, []⟩,
    ⟨(some 25), .bin .neq (.t 20) (.t 24), none, 395264, 8, []⟩])
  (.cond (.t 25)
   (.seq (.reg [⟨(some 4), .mv (.k (.bool false)), none, 458752, 0, []⟩])
   (.ret))
   (.skip))))
  (.reg [⟨(some 15), .mv (.t 5), none, 327680, 0, []⟩,
    ⟨(some 16), .bin .add (.t 15) (.k (.int .i64 1)), none, 327936, 1, []⟩,
    ⟨(some 5), .mv (.t 16), none, 328192, 2, []⟩]))))))
 (.seq (.reg [⟨(some 4), .mv (.k (.bool true)), none, 524288, 0, []⟩])
 (.ret))))⟩
/-- loop.example/g00849/laws.markStringS -/
def F21 : F := ⟨2, 20, [.t 4],
 .seq (.reg [⟨(some 4), .mv (.k (.int .i64 0)), none, 0, 0, []⟩])
 (.seq (.seq (.reg [⟨(some 5), .mv (.k (.int .i64 0)), none, 65536, 0, []⟩])
 (.block 0 (.loop [0, 1, 5] []
  (.seq (.seq (.reg [⟨(some 6), .mv (.t 5), none, 131072, 0, []⟩,
    ⟨(some 7), .mv (.t 0), none, 131328, 1, []⟩,
    ⟨(some 8), .len false (.t 7), none, 131584, 2, []⟩,
    ⟨(some 9), .bin .lss (.t 6) (.t 8), none, 131840, 3, []⟩])
  (.cond (.t 9)
   (.skip)
   (.exit 0)))
  (.seq (.block 1 (.seq (.reg [⟨(some 12), .mv (.t 0), none, 262144, 0, []⟩,
    ⟨(some 13), .mv (.t 5), none, 262400, 1, []⟩,
    ⟨(some 14), .mv (.t 1), none, 262656, 2, []⟩,
    ⟨(some 15), .call 75 [(.t 14)] true, none, 262912, 3, []⟩,
    ⟨(some 16), .iaddr 1 (.t 12) (.t 13), none, 263168, 4, []⟩,
    ⟨none, .store 1 (.t 16) (.t 15), none, 263424, 5, []⟩])
  (.reg [⟨(some 17), .mv (.t 1), none, 327680, 0, []⟩,
    ⟨(some 18), .bin .add (.t 17) (.k (.int .i64 1)), none, 327936, 1, []⟩,
    ⟨(some 1), .mv (.t 18), none, 328192, 2, []⟩])))
  (.reg [⟨(some 10), .mv (.t 5), none, 196608, 0, []⟩,
    ⟨(some 11), .bin .add (.t 10) (.k (.int .i64 1)), none, 196864, 1, []⟩,
    ⟨(some 5), .mv (.t 11), none, 197120, 2, []⟩]))))))
 (.seq (.reg [⟨(some 19), .mv (.t 1), none, 393216, 0, []⟩,
   ⟨(some 4), .mv (.t 19), none, 393472, 1, []⟩])
 (.ret)))⟩
/-- loop.example/g00849/laws.heldStringS -/
def F22 : F := ⟨2, 22, [.t 4],
 .seq (.reg [⟨(some 4), .mv (.k (.int .i64 0)), none, 0, 0, []⟩])
 (.seq (.seq (.reg [⟨(some 5), .mv (.k (.int .i64 0)), none, 65536, 0, []⟩])
 (.block 0 (.loop [0, 1, 5] []
  (.seq (.seq (.reg [⟨(some 6), .mv (.t 5), none, 131072, 0, []⟩,
    ⟨(some 7), .mv (.t 0), none, 131328, 1, []⟩,
    ⟨(some 8), .len false (.t 7), none, 131584, 2, []⟩,
    ⟨(some 9), .bin .lss (.t 6) (.t 8), none, 131840, 3, []⟩])
  (.cond (.t 9)
   (.skip)
   (.exit 0)))
  (.seq (.block 1 (.seq (.seq (.reg [⟨(some 12), .mv (.t 0), none, 262144, 0, []⟩,
    ⟨(some 13), .mv (.t 5), none, 262400, 1, []⟩,
    ⟨(some 14), .iaddr 1 (.t 12) (.t 13), none, 262656, 2, []⟩,
    ⟨(some 15), .load 1 false (.t 14), none, 262912, 3, []⟩,
    ⟨(some 16), .mv (.t 1), none, 263168, 4, []⟩,
    ⟨(some 17), .call 75 [(.t 16)] true, none, 263424, 5, []⟩,
    ⟨(some 18), .bin .neq (.t 15) (.t 17), none, 263680, 6, []⟩])
  (.cond (.t 18)
   (.seq (.reg [⟨(some 4), .mv (.k (.int .i64 (-1))), none, 327680, 0, []⟩])
   (.ret))
   (.skip)))
  (.reg [⟨(some 19), .mv (.t 1), none, 393216, 0, []⟩,
    ⟨(some 20), .bin .add (.t 19) (.k (.int .i64 1)), none, 393472, 1, []⟩,
    ⟨(some 1), .mv (.t 20), none, 393728, 2, []⟩])))
  (.reg [⟨(some 10), .mv (.t 5), none, 196608, 0, []⟩,
    ⟨(some 11), .bin .add (.t 10) (.k (.int .i64 1)), none, 196864, 1, []⟩,
    ⟨(some 5), .mv (.t 11), none, 197120, 2, []⟩]))))))
 (.seq (.reg [⟨(some 21), .mv (.t 1), none, 458752, 0, []⟩,
   ⟨(some 4), .mv (.t 21), none, 459008, 1, []⟩])
 (.ret)))⟩
/-- loop.example/g00849/spec.A8Code -/
def F23 : F := ⟨1, 8, [.cell 2 2 true],
 .seq (.reg [⟨(some 2), .alloc [(.int .i64 0), (.int .i64 0)], none, 0, 0, []⟩])
 (.seq (.reg [⟨(some 4), .mv (.t 0), none, 65536, 0, []⟩,
   ⟨(some 5), .call 76 [(.t 4)] false, none, 65792, 1, []⟩,
   ⟨(some 3), .mv (.t 5), none, 66048, 2, []⟩])
 (.seq (.reg [⟨(some 6), .mv (.t 3), none, 131072, 0, []⟩,
   ⟨(some 7), .call 77 [(.t 6)] true, none, 131328, 1, []⟩,
   ⟨none, .store 2 (.t 2) (.t 7), none, 131584, 2, []⟩])
 (.ret)))⟩
/-- loop.example/g00849/laws.a8At -/
def F26 : F := ⟨3, 42, [.t 6],
 .seq (.reg [⟨(some 6), .mv (.k (.int .i64 0)), none, 0, 0, []⟩])
 (.seq (.seq (.reg [⟨(some 8), .mv (.t 2), none, 65536, 0, []⟩,
   ⟨(some 9), .bin .leq (.t 8) (.k (.int .i64 1)), none, 65792, 1, []⟩])
 (.cond (.t 9)
  (.seq (.reg [⟨(some 6), .mv (.k (.int .i64 0)), none, 131072, 0, []⟩])
  (.ret))
  (.skip)))
 (.seq (.seq (.reg [⟨(some 10), .mv (.t 0), none, 196608, 0, []⟩,
   ⟨(some 11), .len false (.t 10), none, 196864, 1, []⟩,
   ⟨(some 12), .bin .eql (.t 11) (.k (.int .i64 0)), none, 197120, 2, []⟩])
 (.cond (.t 12)
  (.seq (.reg [⟨(some 13), .mv (.t 1), none, 262144, 0, []⟩,
    ⟨(some 14), .bin .mul (.t 13) (.k (.int .i64 7)), none, 262400, 1, []⟩,
    ⟨(some 15), .mv (.t 2), none, 262656, 2, []⟩,
    ⟨(some 16), .bin .rem (.t 14) (.t 15), none, 262912, 3, []⟩,
    ⟨(some 6), .mv (.t 16), none, 263168, 4, []⟩])
  (.ret))
  (.skip)))
 (.seq (.reg [⟨(some 17), .mv (.t 0), none, 327680, 0, []⟩,
   ⟨(some 18), .len false (.t 17), none, 327936, 1, []⟩,
   ⟨(some 7), .mv (.t 18), none, 328192, 2, []⟩])
 (.seq (.reg [⟨(some 19), .mv (.t 0), none, 393216, 0, []⟩,
   ⟨(some 20), .mv (.t 1), none, 393472, 1, []⟩,
   ⟨(some 21), .mv (.t 7), none, 393728, 2, []⟩,
   ⟨(some 22), .bin .rem (.t 20) (.t 21), none, 393984, 3, []⟩,
   ⟨(some 23), .iaddr 1 (.t 19) (.t 22), none, 394240, 4, []⟩,
   ⟨(some 24), .load 1 false (.t 23), none, 394496, 5, []⟩,
   ⟨(some 25), .conv .i64 (.t 24), none, 394752, 6, []⟩,
   ⟨(some 26), .bin .mul (.t 25) (.k (.int .i64 31)), none, 395008, 7, []⟩,
   ⟨(some 27), .mv (.t 0), none, 395264, 8, []⟩,
   ⟨(some 28), .mv (.t 1), none, 395520, 9, []⟩,
   ⟨(some 29), .bin .add (.t 28) (.k (.int .i64 1)), none, 395776, 10, []⟩,
   ⟨(some 30), .mv (.t 7), none, 396032, 11, []⟩,
   ⟨(some 31), .bin .rem (.t 29) (.t 30), none, 396288, 12, []⟩,
   ⟨(some 32), .iaddr 1 (.t 27) (.t 31), none, 396544, 13, []⟩,
   ⟨(some 33), .load 1 false (.t 32), none, 396800, 14, []⟩,
   ⟨(some 34), .conv .i64 (.t 33), none, 397056, 15, []⟩,
   ⟨(some 35), .bin .add (.t 26) (.t 34), none, 397312, 16, []⟩,
   ⟨(some 36), .mv (.t 1), none, 397568, 17, []⟩,
   ⟨(some 37), .mv (.t 7), none, 397824, 18, []⟩,
   ⟨(some 38), .bin .quo (.t 36) (.t 37), none, 398080, 19, []⟩,
   ⟨(some 39), .bin .add (.t 35) (.t 38), none, 398336, 20, []⟩,
   ⟨(some 40), .mv (.t 2), none, 398592, 21, []⟩,
   ⟨(some 41), .bin .rem (.t 39) (.t 40), none, 398848, 22, []⟩,
   ⟨(some 6), .mv (.t 41), none, 399104, 23, []⟩])
 (.ret)))))⟩
/-- loop.example/g00849/laws.szMatrix -/
def F32 : F := ⟨2, 12, [.t 4],
 .seq (.reg [⟨(some 2), .box (.t 0), none, 0, 0, []⟩,
   ⟨(some 4), .mv (.k (.int .i64 0)), none, 256, 1, []⟩])
 (.seq (.reg [⟨(some 5), .faddr 2 (.t 2), none, 65536, 0, []⟩,
   ⟨(some 6), .load 1 false (.t 5), none, 65792, 1, []⟩,
   ⟨(some 7), .mv (.t 1), none, 66048, 2, []⟩,
   ⟨(some 8), .call 87 [(.t 6), (.t 7)] true, none, 66304, 3, []⟩,
   ⟨(some 1), .mv (.t 8), none, 66560, 4, []⟩])
 (.seq (.seq (.reg [⟨(some 9), .mv (.t 1), none, 131072, 0, []⟩,
   ⟨(some 10), .bin .lss (.t 9) (.k (.int .i64 0)), none, 131328, 1, []⟩])
 (.cond (.t 10)
  (.seq (.reg [⟨(some 4), .mv (.k (.int .i64 (-1))), none, 196608, 0, []⟩])
  (.ret))
  (.skip)))
 (.seq (.reg [⟨(some 11), .mv (.t 1), none, 262144, 0, []⟩,
   ⟨(some 4), .mv (.t 11), none, 262400, 1, []⟩])
 (.ret))))⟩
/-- loop.example/g00849/laws.szStringS -/
def F33 : F := ⟨2, 28, [.t 4],
 .seq (.reg [⟨(some 4), .mv (.k (.int .i64 0)), none, 0, 0, []⟩])
 (.seq (.reg [⟨(some 6), .mv (.t 1), none, 65536, 0, []⟩,
   ⟨(some 7), .mv (.t 0), none, 65792, 1, []⟩,
   ⟨(some 8), .len false (.t 7), none, 66048, 2, []⟩,
   ⟨(some 9), .bin .sub (.t 6) (.t 8), none, 66304, 3, []⟩,
   ⟨(some 1), .mv (.t 9), none, 66560, 4, []⟩])
 (.seq (.seq (.reg [⟨(some 10), .mv (.t 1), none, 131072, 0, []⟩,
   ⟨(some 11), .bin .lss (.t 10) (.k (.int .i64 0)), none, 131328, 1, []⟩])
 (.cond (.t 11)
  (.seq (.reg [⟨(some 4), .mv (.k (.int .i64 (-1))), none, 196608, 0, []⟩])
  (.ret))
  (.skip)))
 (.seq (.seq (.reg [⟨(some 5), .mv (.k (.int .i64 0)), none, 262144, 0, []⟩])
 (.block 0 (.loop [0, 1, 5] []
  (.seq (.seq (.reg [⟨(some 12), .mv (.t 5), none, 327680, 0, []⟩,
    ⟨(some 13), .mv (.t 0), none, 327936, 1, []⟩,
    ⟨(some 14), .len false (.t 13), none, 328192, 2, []⟩,
    ⟨(some 15), .bin .lss (.t 12) (.t 14), none, 328448, 3, []⟩])
  (.cond (.t 15)
   (.skip)
   (.exit 0)))
  (.seq (.block 1 (.seq (.reg [⟨(some 18), .mv (.t 1), none, 458752, 0, []⟩,
    ⟨(some 19), .mv (.t 0), none, 459008, 1, []⟩,
    ⟨(some 20), .mv (.t 5), none, 459264, 2, []⟩,
    ⟨(some 21), .iaddr 1 (.t 19) (.t 20), none, 459520, 3, []⟩,
    ⟨(some 22), .load 1 false (.t 21), none, 459776, 4, []⟩,
    ⟨(some 23), .len true (.t 22), none, 460032, 5, []⟩,
    ⟨(some 24), .bin .sub (.t 18) (.t 23), none, 460288, 6, []⟩,
    ⟨(some 1), .mv (.t 24), none, 460544, 7, []⟩])
  (.seq (.reg [⟨(some 25), .mv (.t 1), none, 524288, 0, []⟩,
    ⟨(some 26), .bin .lss (.t 25) (.k (.int .i64 0)), none, 524544, 1, []⟩])
  (.cond (.t 26)
   (.seq (.reg [⟨(some 4), .mv (.k (.int .i64 (-1))), none, 589824, 0, []⟩])
   (.ret))
   (.skip)))))
  (.reg [⟨(some 16), .mv (.t 5), none, 393216, 0, []⟩,
    ⟨(some 17), .bin .add (.t 16) (.k (.int .i64 1)), none, 393472, 1, []⟩,
    ⟨(some 5), .mv (.t 17), none, 393728, 2, []⟩]))))))
 (.seq (.reg [⟨(some 27), .mv (.t 1), none, 655360, 0, []⟩,
   ⟨(some 4), .mv (.t 27), none, 655616, 1, []⟩])
 (.ret)))))⟩
/-- loop.example/g00849/spec.MatPieces -/
def F34 : F := ⟨2, 37, [.t 4, .t 5],
 .seq (.reg [⟨(some 2), .box (.t 0), none, 0, 0, []⟩,
   ⟨(some 4), .nil0 true 1, none, 256, 1, []⟩,
   ⟨(some 5), .mv (.k (.int .i64 0)), none, 512, 2, []⟩])
 (.seq (.seq (.reg [⟨(some 7), .load 3 true (.t 2), none, 65536, 0, []⟩,
   ⟨(some 8), .call 88 [(.t 7)] true, none, 65792, 1, []⟩,
   ⟨(some 9), .not (.t 8), none, 66048, 2, []⟩])
 (.cond (.t 9)
  (.seq (.reg [⟨(some 10), .bslice true 1 [(.str ByteArray.empty)] 0 [], none, 131072, 0, []⟩,
    ⟨(some 4), .mv (.t 10), none, 131328, 1, []⟩,
    ⟨(some 5), .mv (.k (.int .i64 1)), none, 131584, 2, []⟩])
  (.ret))
  (.skip)))
 (.seq (.seq (.reg [⟨(some 11), .mv (.t 1), none, 196608, 0, []⟩,
   ⟨(some 12), .len false (.t 11), none, 196864, 1, []⟩,
   ⟨(some 13), .faddr 1 (.t 2), none, 197120, 2, []⟩,
   ⟨(some 14), .load 1 false (.t 13), none, 197376, 3, []⟩,
   ⟨(some 15), .bin .neq (.t 12) (.t 14), none, 197632, 4, []⟩])
 (.cond (.t 15)
  (.seq (.reg [⟨(some 16), .bslice true 1 [(.str ByteArray.empty)] 0 [], none, 262144, 0, []⟩,
    ⟨(some 4), .mv (.t 16), none, 262400, 1, []⟩,
    ⟨(some 5), .mv (.k (.int .i64 4)), none, 262656, 2, []⟩])
  (.ret))
  (.skip)))
 (.seq (.seq (.reg [⟨(some 6), .mv (.k (.int .i64 1)), none, 327680, 0, []⟩])
 (.block 0 (.loop [1, 2, 6] [0, 1, 2, 3, 4, 5, 256, 131072, 262144, 655872, 655873, 655874, 655875]
  (.seq (.seq (.reg [⟨(some 17), .mv (.t 6), none, 393216, 0, []⟩,
    ⟨(some 18), .mv (.t 1), none, 393472, 1, []⟩,
    ⟨(some 19), .len false (.t 18), none, 393728, 2, []⟩,
    ⟨(some 20), .bin .lss (.t 17) (.t 19), none, 393984, 3, []⟩])
  (.cond (.t 20)
   (.skip)
   (.exit 0)))
  (.seq (.block 1 (.seq (.reg [⟨(some 23), .mv (.t 1), none, 524288, 0, []⟩,
    ⟨(some 24), .mv (.t 6), none, 524544, 1, []⟩,
    ⟨(some 25), .iaddr 1 (.t 23) (.t 24), none, 524800, 2, []⟩,
    ⟨(some 26), .load 1 false (.t 25), none, 525056, 3, []⟩,
    ⟨(some 27), .len true (.t 26), none, 525312, 4, []⟩,
    ⟨(some 28), .mv (.t 1), none, 525568, 5, []⟩,
    ⟨(some 29), .iaddr 1 (.t 28) (.k (.int .i64 0)), none, 525824, 6, []⟩,
    ⟨(some 30), .load 1 false (.t 29), none, 526080, 7, []⟩,
    ⟨(some 31), .len true (.t 30), none, 526336, 8, []⟩,
    ⟨(some 32), .bin .neq (.t 27) (.t 31), none, 526592, 9, []⟩])
  (.cond (.t 32)
   (.seq (.reg [⟨(some 33), .bslice true 1 [(.str ByteArray.empty)] 0 [], none, 589824, 0, []⟩,
     ⟨(some 4), .mv (.t 33), none, 590080, 1, []⟩,
     ⟨(some 5), .mv (.k (.int .i64 2)), none, 590336, 2, []⟩])
   (.ret))
   (.skip))))
  (.reg [⟨(some 21), .mv (.t 6), none, 458752, 0, []⟩,
    ⟨(some 22), .bin .add (.t 21) (.k (.int .i64 1)), none, 459008, 1, []⟩,
    ⟨(some 6), .mv (.t 22), none, 459264, 2, []⟩]))))))
 (.seq (.reg [⟨(some 34), .load 3 true (.t 2), none, 655360, 0, []⟩,
   ⟨(some 35), .mv (.t 1), none, 655616, 1, []⟩,
   ⟨(some 36), .call 89 [(.t 34), (.t 35)] false, none, 655872, 2, []⟩,
   ⟨(some 4), .mv (.t 36), none, 656128, 3, []⟩,
   ⟨(some 5), .mv (.k (.int .i64 0)), none, 656384, 4, []⟩])
 (.ret)))))⟩
/-- loop.example/g00849/laws.toMatrix -/
def F35 : F := ⟨1, 15, [.cell 2 3 true],
 .seq (.reg [⟨(some 1), .box (.t 0), none, 0, 0, []⟩,
   ⟨(some 2), .alloc [(.int .i64 0), (.int .i64 0), (.nil true 1)], none, 256, 1, []⟩])
 (.seq (.reg [⟨(some 3), .alloc [(.int .i64 0), (.int .i64 0), (.nil true 1)], none, 65536, 0, []⟩])
 (.seq (.reg [⟨(some 4), .faddr 0 (.t 1), none, 131072, 0, []⟩,
   ⟨(some 5), .load 1 false (.t 4), none, 131328, 1, []⟩,
   ⟨(some 6), .faddr 0 (.t 3), none, 131584, 2, []⟩,
   ⟨none, .store 1 (.t 6) (.t 5), none, 131840, 3, []⟩])
 (.seq (.reg [⟨(some 7), .faddr 1 (.t 1), none, 196608, 0, []⟩,
   ⟨(some 8), .load 1 false (.t 7), none, 196864, 1, []⟩,
   ⟨(some 9), .faddr 1 (.t 3), none, 197120, 2, []⟩,
   ⟨none, .store 1 (.t 9) (.t 8), none, 197376, 3, []⟩])
 (.seq (.reg [⟨(some 10), .faddr 2 (.t 1), none, 262144, 0, []⟩,
   ⟨(some 11), .load 1 false (.t 10), none, 262400, 1, []⟩,
   ⟨(some 12), .call 90 [(.t 11)] false, none, 262656, 2, []⟩,
   ⟨(some 13), .faddr 2 (.t 3), none, 262912, 3, []⟩,
   ⟨none, .store 1 (.t 13) (.t 12), none, 263168, 4, []⟩])
 (.seq (.reg [⟨(some 14), .load 3 true (.t 3), none, 327680, 0, []⟩,
   ⟨none, .store 3 (.t 2) (.t 14), none, 327936, 1, []⟩])
 (.ret))))))⟩
/-- loop.example/g00849/laws.toStringS -/
def F36 : F := ⟨1, 22, [.t 2],
 .seq (.reg [⟨(some 2), .nil0 true 1, none, 0, 0, []⟩])
 (.seq (.reg [⟨(some 5), .mv (.t 0), none, 65536, 0, []⟩,
   ⟨(some 6), .len false (.t 5), none, 65792, 1, []⟩,
   ⟨(some 7), .mksl true 1 16 [(.str ByteArray.empty)] (.t 6) (.t 6), none, 66048, 2, []⟩,
   ⟨(some 3), .mv (.t 7), none, 66304, 3, []⟩])
 (.seq (.seq (.reg [⟨(some 4), .mv (.k (.int .i64 0)), none, 131072, 0, []⟩])
 (.block 0 (.loop [0, 3, 4] [0, 66048]
  (.seq (.seq (.reg [⟨(some 8), .mv (.t 4), none, 196608, 0, []⟩,
    ⟨(some 9), .mv (.t 0), none, 196864, 1, []⟩,
    ⟨(some 10), .len false (.t 9), none, 197120, 2, []⟩,
    ⟨(some 11), .bin .lss (.t 8) (.t 10), none, 197376, 3, []⟩])
  (.cond (.t 11)
   (.skip)
   (.exit 0)))
  (.seq (.block 1 (.reg [⟨(some 14), .mv (.t 3), none, 327680, 0, []⟩,
    ⟨(some 15), .mv (.t 4), none, 327936, 1, []⟩,
    ⟨(some 16), .mv (.t 0), none, 328192, 2, []⟩,
    ⟨(some 17), .mv (.t 4), none, 328448, 3, []⟩,
    ⟨(some 18), .iaddr 1 (.t 16) (.t 17), none, 328704, 4, []⟩,
    ⟨(some 19), .load 1 false (.t 18), none, 328960, 5, []⟩,
    ⟨(some 20), .iaddr 1 (.t 14) (.t 15), none, 329216, 6, []⟩,
    ⟨none, .store 1 (.t 20) (.t 19), none, 329472, 7, []⟩]))
  (.reg [⟨(some 12), .mv (.t 4), none, 262144, 0, []⟩,
    ⟨(some 13), .bin .add (.t 12) (.k (.int .i64 1)), none, 262400, 1, []⟩,
    ⟨(some 4), .mv (.t 13), none, 262656, 2, []⟩]))))))
 (.seq (.reg [⟨(some 21), .mv (.t 3), none, 393216, 0, []⟩,
   ⟨(some 2), .mv (.t 21), none, 393472, 1, []⟩])
 (.ret))))⟩
/-- loop.example/g00849/impl.MatPieces -/
def F37 : F := ⟨2, 23, [.t 4, .t 5],
 .seq (.reg [⟨(some 2), .box (.t 0), none, 0, 0, []⟩,
   ⟨(some 3), .box (.t 1), none, 256, 1, []⟩,
   ⟨(some 4), .nil0 true 1, none, 512, 2, []⟩,
   ⟨(some 5), .mv (.k (.int .i64 0)), none, 768, 3, []⟩])
 (.seq (.block 0 (.seq (.reg [⟨(some 7), .load 3 true (.t 2), none, 65536, 0, []⟩,
   ⟨(some 8), .call 91 [(.t 7)] true, none, 65792, 1, []⟩,
   ⟨(some 9), .not (.t 8), none, 66048, 2, []⟩,
   ⟨(some 6), .mv (.t 9), none, 66304, 3, []⟩])
 (.cond (.t 6)
  (.seq (.reg [⟨(some 4), .nil0 true 1, none, 131072, 0, []⟩,
    ⟨(some 5), .mv (.k (.int .i64 1)), none, 131328, 1, []⟩])
  (.ret))
  (.seq (.reg [⟨(some 11), .load 1 false (.t 3), none, 196608, 0, []⟩,
    ⟨(some 12), .len false (.t 11), none, 196864, 1, []⟩,
    ⟨(some 13), .faddr 1 (.t 2), none, 197120, 2, []⟩,
    ⟨(some 14), .load 1 false (.t 13), none, 197376, 3, []⟩,
    ⟨(some 15), .bin .neq (.t 12) (.t 14), none, 197632, 4, []⟩,
    ⟨(some 10), .mv (.t 15), none, 197888, 5, []⟩])
  (.cond (.t 10)
   (.seq (.reg [⟨(some 4), .nil0 true 1, none, 262144, 0, []⟩,
     ⟨(some 5), .mv (.k (.int .i64 4)), none, 262400, 1, []⟩])
   (.ret))
   (.seq (.reg [⟨(some 17), .load 1 false (.t 3), none, 327680, 0, []⟩,
     ⟨(some 18), .mkf 92 [(.t 3)], none, 327936, 1, []⟩,
     ⟨(some 19), .call 82 [(.t 17), (.t 18)] true, none, 328192, 2, []⟩,
     ⟨(some 16), .mv (.t 19), none, 328448, 3, []⟩])
   (.cond (.t 16)
    (.seq (.reg [⟨(some 4), .nil0 true 1, none, 393216, 0, []⟩,
      ⟨(some 5), .mv (.k (.int .i64 2)), none, 393472, 1, []⟩])
    (.ret))
    (.skip))))))))
 (.seq (.reg [⟨(some 20), .load 3 true (.t 2), none, 458752, 0, []⟩,
   ⟨(some 21), .load 1 false (.t 3), none, 459008, 1, []⟩,
   ⟨(some 22), .call 93 [(.t 20), (.t 21)] false, none, 459264, 2, []⟩,
   ⟨(some 4), .mv (.t 22), none, 459520, 3, []⟩,
   ⟨(some 5), .mv (.k (.int .i64 0)), none, 459776, 4, []⟩])
 (.ret)))⟩
/-- loop.example/g00849/laws.eqMatrix -/
def F38 : F := ⟨2, 21, [.t 4],
 .seq (.reg [⟨(some 2), .box (.t 0), none, 0, 0, []⟩,
   ⟨(some 3), .box (.t 1), none, 256, 1, []⟩,
   ⟨(some 4), .mv (.k (.bool false)), none, 512, 2, []⟩])
 (.seq (.seq (.reg [⟨(some 5), .faddr 0 (.t 2), none, 65536, 0, []⟩,
   ⟨(some 6), .load 1 false (.t 5), none, 65792, 1, []⟩,
   ⟨(some 7), .faddr 0 (.t 3), none, 66048, 2, []⟩,
   ⟨(some 8), .load 1 false (.t 7), none, 66304, 3, []⟩,
   ⟨(some 9), .bin .neq (.t 6) (.t 8), none, 66560, 4, []⟩])
 (.cond (.t 9)
  (.seq (.reg [⟨(some 4), .mv (.k (.bool false)), none, 131072, 0, []⟩])
  (.ret))
  (.skip)))
 (.seq (.seq (.reg [⟨(some 10), .faddr 1 (.t 2), none, 196608, 0, []⟩,
   ⟨(some 11), .load 1 false (.t 10), none, 196864, 1, []⟩,
   ⟨(some 12), .faddr 1 (.t 3), none, 197120, 2, []⟩,
   ⟨(some 13), .load 1 false (.t 12), none, 197376, 3, []⟩,
   ⟨(some 14), .bin .neq (.t 11) (.t 13), none, 197632, 4, []⟩])
 (.cond (.t 14)
  (.seq (.reg [⟨(some 4), .mv (.k (.bool false)), none, 262144, 0, []⟩])
  (.ret))
  (.skip)))
 (.seq (.seq (.reg [⟨(some 15), .faddr 2 (.t 2), none, 327680, 0, []⟩,
   ⟨(some 16), .load 1 false (.t 15), none, 327936, 1, []⟩,
   ⟨(some 17), .faddr 2 (.t 3), none, 328192, 2, []⟩,
   ⟨(some 18), .load 1 false (.t 17), none, 328448, 3, []⟩,
   ⟨(some 19), .call 94 [(.t 16), (.t 18)] true, none, 328704, 4, []⟩,
   ⟨(some 20), .not (.t 19), none, 328960, 5, []⟩])
 (.cond (.t 20)
  (.seq (.reg [⟨(some 4), .mv (.k (.bool false)), none, 393216, 0, []⟩])
  (.ret))
  (.skip)))
 (.seq (.reg [⟨(some 4), .mv (.k (.bool true)), none, 458752, 0, []⟩])
 (.ret)))))⟩
/-- loop.example/g00849/laws.markMatrix -/
def F39 : F := ⟨2, 10, [.t 4],
 .seq (.reg [⟨(some 2), .box (.t 0), none, 0, 0, []⟩,
   ⟨(some 4), .mv (.k (.int .i64 0)), none, 256, 1, []⟩])
 (.seq (.reg [⟨(some 5), .faddr 2 (.t 2), none, 65536, 0, []⟩,
   ⟨(some 6), .load 1 false (.t 5), none, 65792, 1, []⟩,
   ⟨(some 7), .mv (.t 1), none, 66048, 2, []⟩,
   ⟨(some 8), .call 95 [(.t 6), (.t 7)] true, none, 66304, 3, []⟩,
   ⟨(some 1), .mv (.t 8), none, 66560, 4, []⟩])
 (.seq (.reg [⟨(some 9), .mv (.t 1), none, 131072, 0, []⟩,
   ⟨(some 4), .mv (.t 9), none, 131328, 1, []⟩])
 (.ret)))⟩
/-- loop.example/g00849/laws.a8Body -/
def F40 : F := ⟨1, 15, [.t 2],
 .seq (.reg [⟨(some 2), .mv (.k (.str ByteArray.empty)), none, 0, 0, []⟩])
 (.seq (.reg [⟨(some 4), .mv (.t 0), none, 65536, 0, []⟩,
   ⟨(some 5), .call 55 [(.t 4)] true, none, 65792, 1, []⟩,
   ⟨(some 6), .mv (.t 0), none, 66048, 2, []⟩,
   ⟨(some 7), .call 56 [(.k (.int .i64 7)), (.t 6)] false, none, 66304, 3, []⟩,
   ⟨(some 8), .call 55 [(.t 7)] true, none, 66560, 4, []⟩,
   ⟨(some 9), .bin .add (.t 5) (.t 8), none, 66816, 5, []⟩,
   ⟨(some 3), .mv (.t 9), none, 67072, 6, []⟩])
 (.seq (.reg [⟨(some 10), .mv (.t 3), none, 131072, 0, []⟩,
   ⟨(some 11), .mv (.t 3), none, 131328, 1, []⟩,
   ⟨(some 12), .len true (.t 11), none, 131584, 2, []⟩,
   ⟨(some 13), .min (.t 12) (.k (.int .i64 64)), none, 131840, 3, []⟩,
   ⟨(some 14), .scut (.t 10) none (some (.t 13)), none, 132096, 4, []⟩,
   ⟨(some 2), .mv (.t 14), none, 132352, 5, []⟩])
 (.ret)))⟩
/-- loop.example/g00849/laws.a8Have -/
def F41 : F := ⟨2, 39, [.t 4, .t 5],
 .seq (.reg [⟨(some 4), .nil0 true 2, none, 0, 0, []⟩,
   ⟨(some 5), .mv (.k (.bool false)), none, 256, 1, []⟩])
 (.seq (.reg [⟨(some 8), .bslice true 2 [(.int .i64 0), (.str ByteArray.empty)] 0 [], none, 65536, 0, []⟩,
   ⟨(some 6), .mv (.t 8), none, 65792, 1, []⟩])
 (.seq (.seq (.reg [⟨(some 7), .mv (.k (.int .i64 0)), none, 131072, 0, []⟩])
 (.block 0 (.loop [0, 1, 6, 7] [0, 65536]
  (.seq (.seq (.reg [⟨(some 9), .mv (.t 7), none, 196608, 0, []⟩,
    ⟨(some 10), .mv (.t 1), none, 196864, 1, []⟩,
    ⟨(some 11), .len false (.t 10), none, 197120, 2, []⟩,
    ⟨(some 12), .bin .lss (.t 9) (.t 11), none, 197376, 3, []⟩])
  (.cond (.t 12)
   (.skip)
   (.exit 0)))
  (.seq (.block 1 (.seq (.seq (.reg [⟨(some 15), .mv (.t 1), none, 327680, 0, []⟩,
    ⟨(some 16), .mv (.t 7), none, 327936, 1, []⟩,
    ⟨(some 17), .iaddr 1 (.t 15) (.t 16), none, 328192, 2, []⟩,
    ⟨(some 18), .load 1 false (.t 17), none, 328448, 3, []⟩,
    ⟨(some 19), .mv (.t 0), none, 328704, 4, []⟩,
    ⟨(some 20), .len false (.t 19), none, 328960, 5, []⟩,
    ⟨(some 21), .bin .geq (.t 18) (.t 20), none, 329216, 6, []⟩])
  (.cond (.t 21)
   (.seq (.reg [⟨(some 22), .mv (.t 6), none, 393216, 0, []⟩,
     ⟨(some 4), .mv (.t 22), none, 393472, 1, []⟩,
     ⟨(some 5), .mv (.k (.bool false)), none, 393728, 2, []⟩])
   (.ret))
   (.skip)))
  (.reg [⟨(some 23), .mv (.t 6), none, 458752, 0, []⟩,
    ⟨(some 24), .mv (.t 1), none, 459008, 1, []⟩,
    ⟨(some 25), .mv (.t 7), none, 459264, 2, []⟩,
    ⟨(some 26), .iaddr 1 (.t 24) (.t 25), none, 459520, 3, []⟩,
    ⟨(some 27), .load 1 false (.t 26), none, 459776, 4, []⟩,
    ⟨(some 28), .mv (.t 0), none, 460032, 5, []⟩,
    ⟨(some 29), .mv (.t 1), none, 460288, 6, []⟩,
    ⟨(some 30), .mv (.t 7), none, 460544, 7, []⟩,
    ⟨(some 31), .iaddr 1 (.t 29) (.t 30), none, 460800, 8, []⟩,
    ⟨(some 32), .load 1 false (.t 31), none, 461056, 9, []⟩,
    ⟨(some 33), .iaddr 1 (.t 28) (.t 32), none, 461312, 10, []⟩,
    ⟨(some 34), .load 1 false (.t 33), none, 461568, 11, []⟩,
    ⟨(some 35), .build [(.int .i64 0), (.str ByteArray.empty)] [(0, 1, (.t 27)), (1, 1, (.t 34))], none, 461824, 12, []⟩,
    ⟨(some 36), .bslice true 2 [(.int .i64 0), (.str ByteArray.empty)] 1 [(0, (.t 35))], none, 462080, 13, []⟩,
    ⟨(some 37), .app true 2 24 (.t 23) (.t 36), none, 462336, 14, []⟩,
    ⟨(some 6), .mv (.t 37), none, 462592, 15, []⟩])))
  (.reg [⟨(some 13), .mv (.t 7), none, 262144, 0, []⟩,
    ⟨(some 14), .bin .add (.t 13) (.k (.int .i64 1)), none, 262400, 1, []⟩,
    ⟨(some 7), .mv (.t 14), none, 262656, 2, []⟩]))))))
 (.seq (.reg [⟨(some 38), .mv (.t 6), none, 524288, 0, []⟩,
   ⟨(some 4), .mv (.t 38), none, 524544, 1, []⟩,
   ⟨(some 5), .mv (.k (.bool true)), none, 524800, 2, []⟩])
 (.ret))))⟩
/-- loop.example/g00849/laws.a8Places -/
def F42 : F := ⟨3, 44, [.t 6],
 .seq (.reg [⟨(some 6), .nil0 true 1, none, 0, 0, []⟩])
 (.seq (.reg [⟨(some 11), .bslice true 1 [(.int .i64 0)] 0 [], none, 65536, 0, []⟩,
   ⟨(some 7), .mv (.t 11), none, 65792, 1, []⟩])
 (.seq (.seq (.reg [⟨(some 8), .mv (.k (.int .i64 0)), none, 131072, 0, []⟩])
 (.block 0 (.loop [0, 1, 2, 7, 8] [0, 65536]
  (.seq (.seq (.reg [⟨(some 12), .mv (.t 8), none, 196608, 0, []⟩,
    ⟨(some 13), .mv (.t 2), none, 196864, 1, []⟩,
    ⟨(some 14), .bin .lss (.t 12) (.t 13), none, 197120, 2, []⟩])
  (.cond (.t 14)
   (.skip)
   (.exit 0)))
  (.seq (.block 1 (.seq (.reg [⟨(some 17), .mv (.t 2), none, 327680, 0, []⟩,
    ⟨(some 18), .mv (.t 8), none, 327936, 1, []⟩,
    ⟨(some 19), .bin .sub (.t 17) (.t 18), none, 328192, 2, []⟩,
    ⟨(some 9), .mv (.t 19), none, 328448, 3, []⟩])
  (.seq (.reg [⟨(some 20), .mv (.t 1), none, 393216, 0, []⟩,
    ⟨(some 21), .mv (.t 7), none, 393472, 1, []⟩,
    ⟨(some 22), .len false (.t 21), none, 393728, 2, []⟩,
    ⟨(some 23), .bin .sub (.t 20) (.t 22), none, 393984, 3, []⟩,
    ⟨(some 10), .mv (.t 23), none, 394240, 4, []⟩])
  (.seq (.reg [⟨(some 24), .mv (.t 10), none, 458752, 0, []⟩,
    ⟨(some 25), .bin .gtr (.t 24) (.k (.int .i64 0)), none, 459008, 1, []⟩,
    ⟨(some 26), .mv (.t 25), none, 459264, 2, []⟩,
    ⟨(some 27), .mv (.t 9), (some (some 26, true)), 459520, 3, []⟩,
    ⟨(some 28), .mv (.t 10), (some (some 26, true)), 459776, 4, []⟩,
    ⟨(some 29), .bin .eql (.t 27) (.t 28), (some (some 26, true)), 460032, 5, []⟩,
    ⟨(some 30), .mv (.t 29), (some (some 26, true)), 460288, 6, []⟩,
    ⟨(some 31), .mv (.t 0), (some (some 30, false)), 460544, 7, []⟩,
    ⟨(some 32), .mv (.t 8), (some (some 30, false)), 460800, 8, []⟩,
    ⟨(some 33), .mv (.t 9), (some (some 30, false)), 461056, 9, []⟩,
    ⟨(some 34), .call 26 [(.t 31), (.t 32), (.t 33)] true, (some (some 30, false)), 461312, 10, []⟩,
    ⟨(some 35), .mv (.t 10), (some (some 30, false)), 461568, 11, []⟩,
    ⟨(some 36), .bin .lss (.t 34) (.t 35), (some (some 30, false)), 461824, 12, []⟩,
    ⟨(some 37), .pick (.t 30) (.k (.bool true)) (.t 36), (some (some 26, true)), 462080, 13, []⟩,
    ⟨(some 38), .pick (.t 26) (.t 37) (.k (.bool false)), none, 462336, 14, []⟩])
  (.cond (.t 38)
   (.reg [⟨(some 39), .mv (.t 7), none, 524288, 0, []⟩,
     ⟨(some 40), .mv (.t 8), none, 524544, 1, []⟩,
     ⟨(some 41), .bslice true 1 [(.int .i64 0)] 1 [(0, (.t 40))], none, 524800, 2, []⟩,
     ⟨(some 42), .app true 1 8 (.t 39) (.t 41), none, 525056, 3, []⟩,
     ⟨(some 7), .mv (.t 42), none, 525312, 4, []⟩])
   (.skip))))))
  (.reg [⟨(some 15), .mv (.t 8), none, 262144, 0, []⟩,
    ⟨(some 16), .bin .add (.t 15) (.k (.int .i64 1)), none, 262400, 1, []⟩,
    ⟨(some 8), .mv (.t 16), none, 262656, 2, []⟩]))))))
 (.seq (.reg [⟨(some 43), .mv (.t 7), none, 589824, 0, []⟩,
   ⟨(some 6), .mv (.t 43), none, 590080, 1, []⟩])
 (.ret))))⟩
/-- loop.example/g00849/impl.HaveOk -/
def F43 : F := ⟨3, 54, [.t 6],
 .seq (.reg [⟨(some 3), .box (.t 0), none, 0, 0, []⟩,
   ⟨(some 6), .mv (.k (.bool false)), none, 256, 1, []⟩])
 (.seq (.seq (.reg [⟨(some 9), .load 2 true (.t 3), none, 65536, 0, []⟩,
   ⟨(some 10), .call 72 [(.t 9)] true, none, 65792, 1, []⟩,
   ⟨(some 11), .not (.t 10), none, 66048, 2, []⟩,
   ⟨(some 12), .mv (.t 11), none, 66304, 3, []⟩,
   ⟨(some 13), .mv (.t 1), (some (some 12, false)), 66560, 4, []⟩,
   ⟨(some 14), .call 78 [(.t 13), (.k (.int .i64 0)), (.k (.int .i64 64))] true, (some (some 12, false)), 66816, 5, []⟩,
   ⟨(some 15), .not (.t 14), (some (some 12, false)), 67072, 6, []⟩,
   ⟨(some 16), .pick (.t 12) (.k (.bool true)) (.t 15), none, 67328, 7, []⟩])
 (.cond (.t 16)
  (.seq (.reg [⟨(some 6), .mv (.k (.bool false)), none, 131072, 0, []⟩])
  (.ret))
  (.skip)))
 (.seq (.seq (.reg [⟨(some 17), .mv (.t 2), none, 196608, 0, []⟩,
   ⟨(some 18), .len false (.t 17), none, 196864, 1, []⟩,
   ⟨(some 19), .mv (.k (.int .i64 0)), none, 197120, 2, []⟩])
 (.block 0 (.loop [1, 2, 3, 17, 18, 19] [0, 1, 2, 3, 4, 5]
  (.seq (.reg [⟨(some 20), .bin .lss (.t 19) (.t 18), none, 262144, 0, []⟩])
  (.seq (.cond (.t 20)
   (.skip)
   (.exit 0))
  (.seq (.block 1 (.seq (.reg [⟨(some 21), .mv (.t 19), none, 327680, 0, []⟩,
    ⟨(some 22), .iaddr 2 (.t 17) (.t 19), none, 327936, 1, []⟩,
    ⟨(some 23), .load 2 true (.t 22), none, 328192, 2, []⟩,
    ⟨(some 8), .alloc [(.int .i64 0), (.str ByteArray.empty)], none, 328448, 3, []⟩,
    ⟨(some 7), .mv (.t 21), none, 328704, 4, []⟩,
    ⟨none, .store 2 (.t 8) (.t 23), none, 328960, 5, []⟩])
  (.seq (.reg [⟨(some 24), .load 2 true (.t 3), none, 393216, 0, []⟩,
    ⟨(some 25), .faddr 0 (.t 8), none, 393472, 1, []⟩,
    ⟨(some 26), .load 1 false (.t 25), none, 393728, 2, []⟩,
    ⟨(some 27), .call 73 [(.t 24), (.t 26)] true, none, 393984, 3, []⟩,
    ⟨(some 28), .not (.t 27), none, 394240, 4, []⟩,
    ⟨(some 29), .mv (.t 28), none, 394496, 5, []⟩,
    ⟨(some 30), .mv (.t 7), (some (some 29, false)), 394752, 6, []⟩,
    ⟨(some 31), .bin .gtr (.t 30) (.k (.int .i64 0)), (some (some 29, false)), 395008, 7, []⟩,
    ⟨(some 32), .mv (.t 31), (some (some 29, false)), 395264, 8, []⟩,
    ⟨(some 33), .faddr 0 (.t 8), (some (some 32, true)), 395520, 9, []⟩,
    ⟨(some 34), .load 1 false (.t 33), (some (some 32, true)), 395776, 10, []⟩,
    ⟨(some 35), .mv (.t 2), (some (some 32, true)), 396032, 11, []⟩,
    ⟨(some 36), .mv (.t 7), (some (some 32, true)), 396288, 12, []⟩,
    ⟨(some 37), .bin .sub (.t 36) (.k (.int .i64 1)), (some (some 32, true)), 396544, 13, []⟩,
    ⟨(some 38), .iaddr 2 (.t 35) (.t 37), (some (some 32, true)), 396800, 14, []⟩,
    ⟨(some 39), .faddr 0 (.t 38), (some (some 32, true)), 397056, 15, []⟩,
    ⟨(some 40), .load 1 false (.t 39), (some (some 32, true)), 397312, 16, []⟩,
    ⟨(some 41), .bin .leq (.t 34) (.t 40), (some (some 32, true)), 397568, 17, []⟩,
    ⟨(some 42), .pick (.t 32) (.t 41) (.k (.bool false)), (some (some 29, false)), 397824, 18, []⟩,
    ⟨(some 43), .pick (.t 29) (.k (.bool true)) (.t 42), none, 398080, 19, []⟩,
    ⟨(some 44), .mv (.t 43), none, 398336, 20, []⟩,
    ⟨(some 45), .faddr 1 (.t 8), (some (some 44, false)), 398592, 21, []⟩,
    ⟨(some 46), .load 1 false (.t 45), (some (some 44, false)), 398848, 22, []⟩,
    ⟨(some 47), .len true (.t 46), (some (some 44, false)), 399104, 23, []⟩,
    ⟨(some 48), .load 2 true (.t 3), (some (some 44, false)), 399360, 24, []⟩,
    ⟨(some 49), .mv (.t 1), (some (some 44, false)), 399616, 25, []⟩,
    ⟨(some 50), .call 96 [(.t 48), (.t 49)] true, (some (some 44, false)), 399872, 26, []⟩,
    ⟨(some 51), .bin .neq (.t 47) (.t 50), (some (some 44, false)), 400128, 27, []⟩,
    ⟨(some 52), .pick (.t 44) (.k (.bool true)) (.t 51), none, 400384, 28, []⟩])
  (.cond (.t 52)
   (.seq (.reg [⟨(some 6), .mv (.k (.bool false)), none, 458752, 0, []⟩])
   (.ret))
   (.skip)))))
  (.reg [⟨(some 53), .bin .add (.t 19) (.k (.int .i64 1)), none, 524288, 0, []⟩,
    ⟨(some 19), .mv (.t 53), none, 524544, 1, []⟩])))))))
 (.seq (.reg [⟨(some 6), .mv (.k (.bool true)), none, 589824, 0, []⟩])
 (.ret))))⟩
/-- loop.example/g00849/impl.BodyOf -/
def F44 : F := ⟨3, 22, [.t 6, .t 7],
 .seq (.reg [⟨(some 3), .box (.t 0), none, 0, 0, []⟩,
   ⟨(some 6), .mv (.k (.str ByteArray.empty)), none, 256, 1, []⟩,
   ⟨(some 7), .mv (.k (.int .i64 0)), none, 512, 2, []⟩])
 (.seq (.seq (.reg [⟨(some 9), .load 2 true (.t 3), none, 65536, 0, []⟩,
   ⟨(some 10), .mv (.t 1), none, 65792, 1, []⟩,
   ⟨(some 11), .mv (.t 2), none, 66048, 2, []⟩,
   ⟨(some 12), .call 97 [(.t 9), (.t 10), (.t 11)] true, none, 66304, 3, []⟩,
   ⟨(some 8), .mv (.t 12), none, 66560, 4, []⟩])
 (.seq (.reg [⟨(some 13), .mv (.t 8), none, 131072, 0, []⟩,
   ⟨(some 14), .bin .neq (.t 13) (.k (.int .i64 0)), none, 131328, 1, []⟩])
 (.cond (.t 14)
  (.seq (.reg [⟨(some 15), .mv (.t 8), none, 196608, 0, []⟩,
    ⟨(some 6), .mv (.k (.str ByteArray.empty)), none, 196864, 1, []⟩,
    ⟨(some 7), .mv (.t 15), none, 197120, 2, []⟩])
  (.ret))
  (.skip))))
 (.seq (.reg [⟨(some 16), .load 2 true (.t 3), none, 262144, 0, []⟩,
   ⟨(some 17), .mv (.t 2), none, 262400, 1, []⟩,
   ⟨(some 18), .call 99 [(.t 16), (.t 17)] false, none, 262656, 2, []⟩,
   ⟨(some 19), .call 98 [(.t 18), (.k (.str ByteArray.empty))] true, none, 262912, 3, []⟩,
   ⟨(some 20), .mv (.t 1), none, 263168, 4, []⟩,
   ⟨(some 21), .scut (.t 19) none (some (.t 20)), none, 263424, 5, []⟩,
   ⟨(some 6), .mv (.t 21), none, 263680, 6, []⟩,
   ⟨(some 7), .mv (.k (.int .i64 0)), none, 263936, 7, []⟩])
 (.ret)))⟩
/-- loop.example/g00849/impl.PieceSize -/
def F49 : F := ⟨2, 17, [.t 4, .t 5],
 .seq (.reg [⟨(some 2), .box (.t 0), none, 0, 0, []⟩,
   ⟨(some 4), .mv (.k (.int .i64 0)), none, 256, 1, []⟩,
   ⟨(some 5), .mv (.k (.int .i64 0)), none, 512, 2, []⟩])
 (.seq (.block 0 (.seq (.reg [⟨(some 7), .load 2 true (.t 2), none, 65536, 0, []⟩,
   ⟨(some 8), .call 72 [(.t 7)] true, none, 65792, 1, []⟩,
   ⟨(some 9), .not (.t 8), none, 66048, 2, []⟩,
   ⟨(some 6), .mv (.t 9), none, 66304, 3, []⟩])
 (.cond (.t 6)
  (.seq (.reg [⟨(some 4), .mv (.k (.int .i64 0)), none, 131072, 0, []⟩,
    ⟨(some 5), .mv (.k (.int .i64 1)), none, 131328, 1, []⟩])
  (.ret))
  (.seq (.reg [⟨(some 11), .mv (.t 1), none, 196608, 0, []⟩,
    ⟨(some 12), .call 78 [(.t 11), (.k (.int .i64 0)), (.k (.int .i64 64))] true, none, 196864, 1, []⟩,
    ⟨(some 13), .not (.t 12), none, 197120, 2, []⟩,
    ⟨(some 10), .mv (.t 13), none, 197376, 3, []⟩])
  (.cond (.t 10)
   (.seq (.reg [⟨(some 4), .mv (.k (.int .i64 0)), none, 262144, 0, []⟩,
     ⟨(some 5), .mv (.k (.int .i64 2)), none, 262400, 1, []⟩])
   (.ret))
   (.skip))))))
 (.seq (.reg [⟨(some 14), .load 2 true (.t 2), none, 327680, 0, []⟩,
   ⟨(some 15), .mv (.t 1), none, 327936, 1, []⟩,
   ⟨(some 16), .call 96 [(.t 14), (.t 15)] true, none, 328192, 2, []⟩,
   ⟨(some 4), .mv (.t 16), none, 328448, 3, []⟩,
   ⟨(some 5), .mv (.k (.int .i64 0)), none, 328704, 4, []⟩])
 (.ret)))⟩
/-- loop.example/g00849/impl.Rebuild -/
def F50 : F := ⟨4, 35, [.t 8, .t 9],
 .seq (.reg [⟨(some 4), .box (.t 0), none, 0, 0, []⟩,
   ⟨(some 8), .mv (.k (.str ByteArray.empty)), none, 256, 1, []⟩,
   ⟨(some 9), .mv (.k (.int .i64 0)), none, 512, 2, []⟩])
 (.seq (.block 0 (.seq (.reg [⟨(some 11), .load 2 true (.t 4), none, 65536, 0, []⟩,
   ⟨(some 12), .mv (.t 1), none, 65792, 1, []⟩,
   ⟨(some 13), .mv (.t 2), none, 66048, 2, []⟩,
   ⟨(some 14), .call 43 [(.t 11), (.t 12), (.t 13)] true, none, 66304, 3, []⟩,
   ⟨(some 15), .not (.t 14), none, 66560, 4, []⟩,
   ⟨(some 10), .mv (.t 15), none, 66816, 5, []⟩])
 (.cond (.t 10)
  (.seq (.reg [⟨(some 8), .mv (.k (.str ByteArray.empty)), none, 131072, 0, []⟩,
    ⟨(some 9), .mv (.k (.int .i64 1)), none, 131328, 1, []⟩])
  (.ret))
  (.seq (.reg [⟨(some 17), .load 2 true (.t 4), none, 196608, 0, []⟩,
    ⟨(some 18), .mv (.t 3), none, 196864, 1, []⟩,
    ⟨(some 19), .call 73 [(.t 17), (.t 18)] true, none, 197120, 2, []⟩,
    ⟨(some 20), .not (.t 19), none, 197376, 3, []⟩,
    ⟨(some 16), .mv (.t 20), none, 197632, 4, []⟩])
  (.cond (.t 16)
   (.seq (.reg [⟨(some 8), .mv (.k (.str ByteArray.empty)), none, 262144, 0, []⟩,
     ⟨(some 9), .mv (.k (.int .i64 2)), none, 262400, 1, []⟩])
   (.ret))
   (.seq (.reg [⟨(some 22), .mv (.t 2), none, 327680, 0, []⟩,
     ⟨(some 23), .len false (.t 22), none, 327936, 1, []⟩,
     ⟨(some 24), .faddr 0 (.t 4), none, 328192, 2, []⟩,
     ⟨(some 25), .load 1 false (.t 24), none, 328448, 3, []⟩,
     ⟨(some 26), .bin .lss (.t 23) (.t 25), none, 328704, 4, []⟩,
     ⟨(some 21), .mv (.t 26), none, 328960, 5, []⟩])
   (.cond (.t 21)
    (.seq (.reg [⟨(some 8), .mv (.k (.str ByteArray.empty)), none, 393216, 0, []⟩,
      ⟨(some 9), .mv (.k (.int .i64 8)), none, 393472, 1, []⟩])
    (.ret))
    (.skip))))))))
 (.seq (.reg [⟨(some 27), .load 2 true (.t 4), none, 458752, 0, []⟩,
   ⟨(some 28), .load 2 true (.t 4), none, 459008, 1, []⟩,
   ⟨(some 29), .mv (.t 2), none, 459264, 2, []⟩,
   ⟨(some 30), .call 99 [(.t 28), (.t 29)] false, none, 459520, 3, []⟩,
   ⟨(some 31), .call 102 [(.t 27), (.t 30)] false, none, 459776, 4, []⟩,
   ⟨(some 32), .mv (.t 3), none, 460032, 5, []⟩,
   ⟨(some 33), .iaddr 1 (.t 31) (.t 32), none, 460288, 6, []⟩,
   ⟨(some 34), .load 1 false (.t 33), none, 460544, 7, []⟩,
   ⟨(some 8), .mv (.t 34), none, 460800, 8, []⟩,
   ⟨(some 9), .mv (.k (.int .i64 0)), none, 461056, 9, []⟩])
 (.ret)))⟩
/-- loop.example/g00849/impl.OddShards -/
def F51 : F := ⟨3, 46, [.t 6, .t 7],
 .seq (.reg [⟨(some 3), .box (.t 0), none, 0, 0, []⟩,
   ⟨(some 6), .nil0 true 1, none, 256, 1, []⟩,
   ⟨(some 7), .mv (.k (.int .i64 0)), none, 512, 2, []⟩])
 (.seq (.seq (.reg [⟨(some 13), .load 2 true (.t 3), none, 65536, 0, []⟩,
   ⟨(some 14), .mv (.t 1), none, 65792, 1, []⟩,
   ⟨(some 15), .mv (.t 2), none, 66048, 2, []⟩,
   ⟨(some 16), .call 97 [(.t 13), (.t 14), (.t 15)] true, none, 66304, 3, []⟩,
   ⟨(some 8), .mv (.t 16), none, 66560, 4, []⟩])
 (.seq (.reg [⟨(some 17), .mv (.t 8), none, 131072, 0, []⟩,
   ⟨(some 18), .bin .neq (.t 17) (.k (.int .i64 0)), none, 131328, 1, []⟩])
 (.cond (.t 18)
  (.seq (.reg [⟨(some 19), .mv (.t 8), none, 196608, 0, []⟩,
    ⟨(some 6), .nil0 true 1, none, 196864, 1, []⟩,
    ⟨(some 7), .mv (.t 19), none, 197120, 2, []⟩])
  (.ret))
  (.skip))))
 (.seq (.reg [⟨(some 20), .load 2 true (.t 3), none, 262144, 0, []⟩,
   ⟨(some 21), .load 2 true (.t 3), none, 262400, 1, []⟩,
   ⟨(some 22), .mv (.t 2), none, 262656, 2, []⟩,
   ⟨(some 23), .call 99 [(.t 21), (.t 22)] false, none, 262912, 3, []⟩,
   ⟨(some 24), .call 102 [(.t 20), (.t 23)] false, none, 263168, 4, []⟩,
   ⟨(some 9), .mv (.t 24), none, 263424, 5, []⟩])
 (.seq (.reg [⟨(some 10), .nil0 true 1, none, 327680, 0, []⟩])
 (.seq (.seq (.reg [⟨(some 25), .mv (.t 2), none, 393216, 0, []⟩,
   ⟨(some 26), .len false (.t 25), none, 393472, 1, []⟩,
   ⟨(some 27), .mv (.k (.int .i64 0)), none, 393728, 2, []⟩])
 (.block 0 (.loop [9, 10, 25, 26, 27] [0, 1, 2, 3, 4, 5, 256, 196864, 262912, 262913, 262914, 262915, 263168, 263169, 263170, 263171, 327680]
  (.seq (.reg [⟨(some 28), .bin .lss (.t 27) (.t 26), none, 458752, 0, []⟩])
  (.seq (.cond (.t 28)
   (.skip)
   (.exit 0))
  (.seq (.block 1 (.seq (.reg [⟨(some 29), .iaddr 2 (.t 25) (.t 27), none, 524288, 0, []⟩,
    ⟨(some 30), .load 2 true (.t 29), none, 524544, 1, []⟩,
    ⟨(some 12), .alloc [(.int .i64 0), (.str ByteArray.empty)], none, 524800, 2, []⟩,
    ⟨none, .store 2 (.t 12) (.t 30), none, 525056, 3, []⟩])
  (.seq (.reg [⟨(some 31), .mv (.t 9), none, 589824, 0, []⟩,
    ⟨(some 32), .faddr 0 (.t 12), none, 590080, 1, []⟩,
    ⟨(some 33), .load 1 false (.t 32), none, 590336, 2, []⟩,
    ⟨(some 34), .iaddr 1 (.t 31) (.t 33), none, 590592, 3, []⟩,
    ⟨(some 35), .load 1 false (.t 34), none, 590848, 4, []⟩,
    ⟨(some 36), .faddr 1 (.t 12), none, 591104, 5, []⟩,
    ⟨(some 37), .load 1 false (.t 36), none, 591360, 6, []⟩,
    ⟨(some 38), .bin .neq (.t 35) (.t 37), none, 591616, 7, []⟩])
  (.cond (.t 38)
   (.reg [⟨(some 39), .mv (.t 10), none, 655360, 0, []⟩,
     ⟨(some 40), .faddr 0 (.t 12), none, 655616, 1, []⟩,
     ⟨(some 41), .load 1 false (.t 40), none, 655872, 2, []⟩,
     ⟨(some 42), .bslice true 1 [(.int .i64 0)] 1 [(0, (.t 41))], none, 656128, 3, []⟩,
     ⟨(some 43), .app true 1 8 (.t 39) (.t 42), none, 656384, 4, []⟩,
     ⟨(some 10), .mv (.t 43), none, 656640, 5, []⟩])
   (.skip)))))
  (.reg [⟨(some 44), .bin .add (.t 27) (.k (.int .i64 1)), none, 720896, 0, []⟩,
    ⟨(some 27), .mv (.t 44), none, 721152, 1, []⟩])))))))
 (.seq (.reg [⟨(some 45), .mv (.t 10), none, 786432, 0, []⟩,
   ⟨(some 6), .mv (.t 45), none, 786688, 1, []⟩,
   ⟨(some 7), .mv (.k (.int .i64 0)), none, 786944, 2, []⟩])
 (.ret))))))⟩
/-- loop.example/g00849/laws.a8Turn -/
def F52 : F := ⟨2, 29, [.t 4],
 .seq (.reg [⟨(some 4), .mv (.k (.str ByteArray.empty)), none, 0, 0, []⟩])
 (.seq (.reg [⟨(some 6), .mv (.t 1), none, 65536, 0, []⟩,
   ⟨(some 7), .mv (.t 0), none, 65792, 1, []⟩,
   ⟨(some 8), .len true (.t 7), none, 66048, 2, []⟩,
   ⟨(some 9), .call 26 [(.t 6), (.k (.int .i64 3)), (.t 8)] true, none, 66304, 3, []⟩,
   ⟨(some 5), .mv (.t 9), none, 66560, 4, []⟩])
 (.seq (.reg [⟨(some 10), .mv (.t 0), none, 131072, 0, []⟩,
   ⟨(some 11), .mv (.t 5), none, 131328, 1, []⟩,
   ⟨(some 12), .scut (.t 10) none (some (.t 11)), none, 131584, 2, []⟩,
   ⟨(some 13), .mv (.t 0), none, 131840, 3, []⟩,
   ⟨(some 14), .mv (.t 5), none, 132096, 4, []⟩,
   ⟨(some 15), .idx (.t 13) (.t 14), none, 132352, 5, []⟩,
   ⟨(some 16), .mv (.t 1), none, 132608, 6, []⟩,
   ⟨(some 17), .call 26 [(.t 16), (.k (.int .i64 5)), (.k (.int .i64 255))] true, none, 132864, 7, []⟩,
   ⟨(some 18), .bin .add (.k (.int .i64 1)) (.t 17), none, 133120, 8, []⟩,
   ⟨(some 19), .conv .u8 (.t 18), none, 133376, 9, []⟩,
   ⟨(some 20), .bin .xor (.t 15) (.t 19), none, 133632, 10, []⟩,
   ⟨(some 21), .bslice true 1 [(.int .u8 0)] 1 [(0, (.t 20))], none, 133888, 11, []⟩,
   ⟨(some 22), .b2s (.t 21), none, 134144, 12, []⟩,
   ⟨(some 23), .bin .add (.t 12) (.t 22), none, 134400, 13, []⟩,
   ⟨(some 24), .mv (.t 0), none, 134656, 14, []⟩,
   ⟨(some 25), .mv (.t 5), none, 134912, 15, []⟩,
   ⟨(some 26), .bin .add (.t 25) (.k (.int .i64 1)), none, 135168, 16, []⟩,
   ⟨(some 27), .scut (.t 24) (some (.t 26)) none, none, 135424, 17, []⟩,
   ⟨(some 28), .bin .add (.t 23) (.t 27), none, 135680, 18, []⟩,
   ⟨(some 4), .mv (.t 28), none, 135936, 19, []⟩])
 (.ret)))⟩
/-- loop.example/g00849/laws.a8Same -/
def F53 : F := ⟨2, 26, [.t 4],
 .seq (.reg [⟨(some 4), .mv (.k (.bool false)), none, 0, 0, []⟩])
 (.seq (.seq (.reg [⟨(some 6), .mv (.t 0), none, 65536, 0, []⟩,
   ⟨(some 7), .len false (.t 6), none, 65792, 1, []⟩,
   ⟨(some 8), .mv (.t 1), none, 66048, 2, []⟩,
   ⟨(some 9), .len false (.t 8), none, 66304, 3, []⟩,
   ⟨(some 10), .bin .neq (.t 7) (.t 9), none, 66560, 4, []⟩])
 (.cond (.t 10)
  (.seq (.reg [⟨(some 4), .mv (.k (.bool false)), none, 131072, 0, []⟩])
  (.ret))
  (.skip)))
 (.seq (.seq (.reg [⟨(some 5), .mv (.k (.int .i64 0)), none, 196608, 0, []⟩])
 (.block 0 (.loop [0, 1, 5] []
  (.seq (.seq (.reg [⟨(some 11), .mv (.t 5), none, 262144, 0, []⟩,
    ⟨(some 12), .mv (.t 0), none, 262400, 1, []⟩,
    ⟨(some 13), .len false (.t 12), none, 262656, 2, []⟩,
    ⟨(some 14), .bin .lss (.t 11) (.t 13), none, 262912, 3, []⟩])
  (.cond (.t 14)
   (.skip)
   (.exit 0)))
  (.seq (.block 1 (.seq (.reg [⟨(some 17), .mv (.t 0), none, 393216, 0, []⟩,
    ⟨(some 18), .mv (.t 5), none, 393472, 1, []⟩,
    ⟨(some 19), .iaddr 1 (.t 17) (.t 18), none, 393728, 2, []⟩,
    ⟨(some 20), .load 1 false (.t 19), none, 393984, 3, []⟩,
    ⟨(some 21), .mv (.t 1), none, 394240, 4, []⟩,
    ⟨(some 22), .mv (.t 5), none, 394496, 5, []⟩,
    ⟨(some 23), .iaddr 1 (.t 21) (.t 22), none, 394752, 6, []⟩,
    ⟨(some 24), .load 1 false (.t 23), none, 395008, 7, []⟩,
    ⟨(some 25), .bin .neq (.t 20) (.t 24), none, 395264, 8, []⟩])
  (.cond (.t 25)
   (.seq (.reg [⟨(some 4), .mv (.k (.bool false)), none, 458752, 0, []⟩])
   (.ret))
   (.skip))))
  (.reg [⟨(some 15), .mv (.t 5), none, 327680, 0, []⟩,
    ⟨(some 16), .bin .add (.t 15) (.k (.int .i64 1)), none, 327936, 1, []⟩,
    ⟨(some 5), .mv (.t 16), none, 328192, 2, []⟩]))))))
 (.seq (.reg [⟨(some 4), .mv (.k (.bool true)), none, 524288, 0, []⟩])
 (.ret))))⟩
/-- loop.example/g00849/spec.A8Word -/
def F55 : F := ⟨1, 8, [.t 2],
 .seq (.reg [⟨(some 2), .mv (.k (.str ByteArray.empty)), none, 0, 0, []⟩])
 (.seq (.reg [⟨(some 4), .mv (.t 0), none, 65536, 0, []⟩,
   ⟨(some 5), .call 76 [(.t 4)] false, none, 65792, 1, []⟩,
   ⟨(some 3), .mv (.t 5), none, 66048, 2, []⟩])
 (.seq (.reg [⟨(some 6), .mv (.t 3), none, 131072, 0, []⟩,
   ⟨(some 7), .call 106 [(.t 6), (.k (.int .i64 40))] true, none, 131328, 1, []⟩,
   ⟨(some 2), .mv (.t 7), none, 131584, 2, []⟩])
 (.ret)))⟩
/-- loop.example/g00849/laws.a8Mix -/
def F56 : F := ⟨2, 10, [.t 4],
 .seq (.reg [⟨(some 4), .nil0 true 1, none, 0, 0, []⟩])
 (.seq (.reg [⟨(some 5), .mv (.t 0), none, 65536, 0, []⟩,
   ⟨(some 6), .conv .u8 (.t 5), none, 65792, 1, []⟩,
   ⟨(some 7), .bslice true 1 [(.int .u8 0)] 1 [(0, (.t 6))], none, 66048, 2, []⟩,
   ⟨(some 8), .mv (.t 1), none, 66304, 3, []⟩,
   ⟨(some 9), .app true 1 1 (.t 7) (.t 8), none, 66560, 4, []⟩,
   ⟨(some 4), .mv (.t 9), none, 66816, 5, []⟩])
 (.ret))⟩
/-- loop.example/g00849/laws.szShardS -/
def F64 : F := ⟨2, 27, [.t 4],
 .seq (.reg [⟨(some 4), .mv (.k (.int .i64 0)), none, 0, 0, []⟩])
 (.seq (.reg [⟨(some 6), .mv (.t 1), none, 65536, 0, []⟩,
   ⟨(some 7), .mv (.t 0), none, 65792, 1, []⟩,
   ⟨(some 8), .len false (.t 7), none, 66048, 2, []⟩,
   ⟨(some 9), .bin .sub (.t 6) (.t 8), none, 66304, 3, []⟩,
   ⟨(some 1), .mv (.t 9), none, 66560, 4, []⟩])
 (.seq (.seq (.reg [⟨(some 10), .mv (.t 1), none, 131072, 0, []⟩,
   ⟨(some 11), .bin .lss (.t 10) (.k (.int .i64 0)), none, 131328, 1, []⟩])
 (.cond (.t 11)
  (.seq (.reg [⟨(some 4), .mv (.k (.int .i64 (-1))), none, 196608, 0, []⟩])
  (.ret))
  (.skip)))
 (.seq (.seq (.reg [⟨(some 5), .mv (.k (.int .i64 0)), none, 262144, 0, []⟩])
 (.block 0 (.loop [0, 1, 5] []
  (.seq (.seq (.reg [⟨(some 12), .mv (.t 5), none, 327680, 0, []⟩,
    ⟨(some 13), .mv (.t 0), none, 327936, 1, []⟩,
    ⟨(some 14), .len false (.t 13), none, 328192, 2, []⟩,
    ⟨(some 15), .bin .lss (.t 12) (.t 14), none, 328448, 3, []⟩])
  (.cond (.t 15)
   (.skip)
   (.exit 0)))
  (.seq (.block 1 (.seq (.reg [⟨(some 18), .mv (.t 0), none, 458752, 0, []⟩,
    ⟨(some 19), .mv (.t 5), none, 459008, 1, []⟩,
    ⟨(some 20), .iaddr 2 (.t 18) (.t 19), none, 459264, 2, []⟩,
    ⟨(some 21), .load 2 true (.t 20), none, 459520, 3, []⟩,
    ⟨(some 22), .mv (.t 1), none, 459776, 4, []⟩,
    ⟨(some 23), .call 115 [(.t 21), (.t 22)] true, none, 460032, 5, []⟩,
    ⟨(some 1), .mv (.t 23), none, 460288, 6, []⟩])
  (.seq (.reg [⟨(some 24), .mv (.t 1), none, 524288, 0, []⟩,
    ⟨(some 25), .bin .lss (.t 24) (.k (.int .i64 0)), none, 524544, 1, []⟩])
  (.cond (.t 25)
   (.seq (.reg [⟨(some 4), .mv (.k (.int .i64 (-1))), none, 589824, 0, []⟩])
   (.ret))
   (.skip)))))
  (.reg [⟨(some 16), .mv (.t 5), none, 393216, 0, []⟩,
    ⟨(some 17), .bin .add (.t 16) (.k (.int .i64 1)), none, 393472, 1, []⟩,
    ⟨(some 5), .mv (.t 17), none, 393728, 2, []⟩]))))))
 (.seq (.reg [⟨(some 26), .mv (.t 1), none, 655360, 0, []⟩,
   ⟨(some 4), .mv (.t 26), none, 655616, 1, []⟩])
 (.ret)))))⟩
/-- loop.example/g00849/spec.Rebuild -/
def F65 : F := ⟨4, 35, [.t 8, .t 9],
 .seq (.reg [⟨(some 4), .box (.t 0), none, 0, 0, []⟩,
   ⟨(some 8), .mv (.k (.str ByteArray.empty)), none, 256, 1, []⟩,
   ⟨(some 9), .mv (.k (.int .i64 0)), none, 512, 2, []⟩])
 (.seq (.seq (.reg [⟨(some 10), .load 2 true (.t 4), none, 65536, 0, []⟩,
   ⟨(some 11), .mv (.t 1), none, 65792, 1, []⟩,
   ⟨(some 12), .mv (.t 2), none, 66048, 2, []⟩,
   ⟨(some 13), .call 116 [(.t 10), (.t 11), (.t 12)] true, none, 66304, 3, []⟩,
   ⟨(some 14), .not (.t 13), none, 66560, 4, []⟩])
 (.cond (.t 14)
  (.seq (.reg [⟨(some 8), .mv (.k (.str ByteArray.empty)), none, 131072, 0, []⟩,
    ⟨(some 9), .mv (.k (.int .i64 1)), none, 131328, 1, []⟩])
  (.ret))
  (.skip)))
 (.seq (.seq (.reg [⟨(some 15), .mv (.t 3), none, 196608, 0, []⟩,
   ⟨(some 16), .faddr 0 (.t 4), none, 196864, 1, []⟩,
   ⟨(some 17), .load 1 false (.t 16), none, 197120, 2, []⟩,
   ⟨(some 18), .faddr 1 (.t 4), none, 197376, 3, []⟩,
   ⟨(some 19), .load 1 false (.t 18), none, 197632, 4, []⟩,
   ⟨(some 20), .bin .add (.t 17) (.t 19), none, 197888, 5, []⟩,
   ⟨(some 21), .bin .sub (.t 20) (.k (.int .i64 1)), none, 198144, 6, []⟩,
   ⟨(some 22), .call 70 [(.t 15), (.k (.int .i64 0)), (.t 21)] true, none, 198400, 7, []⟩,
   ⟨(some 23), .not (.t 22), none, 198656, 8, []⟩])
 (.cond (.t 23)
  (.seq (.reg [⟨(some 8), .mv (.k (.str ByteArray.empty)), none, 262144, 0, []⟩,
    ⟨(some 9), .mv (.k (.int .i64 2)), none, 262400, 1, []⟩])
  (.ret))
  (.skip)))
 (.seq (.seq (.reg [⟨(some 24), .mv (.t 2), none, 327680, 0, []⟩,
   ⟨(some 25), .len false (.t 24), none, 327936, 1, []⟩,
   ⟨(some 26), .faddr 0 (.t 4), none, 328192, 2, []⟩,
   ⟨(some 27), .load 1 false (.t 26), none, 328448, 3, []⟩,
   ⟨(some 28), .bin .lss (.t 25) (.t 27), none, 328704, 4, []⟩])
 (.cond (.t 28)
  (.seq (.reg [⟨(some 8), .mv (.k (.str ByteArray.empty)), none, 393216, 0, []⟩,
    ⟨(some 9), .mv (.k (.int .i64 8)), none, 393472, 1, []⟩])
  (.ret))
  (.skip)))
 (.seq (.reg [⟨(some 29), .load 2 true (.t 4), none, 458752, 0, []⟩,
   ⟨(some 30), .mv (.t 2), none, 459008, 1, []⟩,
   ⟨(some 31), .call 117 [(.t 29), (.t 30)] false, none, 459264, 2, []⟩,
   ⟨(some 32), .mv (.t 3), none, 459520, 3, []⟩,
   ⟨(some 33), .iaddr 1 (.t 31) (.t 32), none, 459776, 4, []⟩,
   ⟨(some 34), .load 1 false (.t 33), none, 460032, 5, []⟩,
   ⟨(some 8), .mv (.t 34), none, 460288, 6, []⟩,
   ⟨(some 9), .mv (.k (.int .i64 0)), none, 460544, 7, []⟩])
 (.ret)))))⟩
/-- loop.example/g00849/laws.toShardS -/
def F66 : F := ⟨1, 23, [.t 2],
 .seq (.reg [⟨(some 2), .nil0 true 2, none, 0, 0, []⟩])
 (.seq (.reg [⟨(some 5), .mv (.t 0), none, 65536, 0, []⟩,
   ⟨(some 6), .len false (.t 5), none, 65792, 1, []⟩,
   ⟨(some 7), .mksl true 2 24 [(.int .i64 0), (.str ByteArray.empty)] (.t 6) (.t 6), none, 66048, 2, []⟩,
   ⟨(some 3), .mv (.t 7), none, 66304, 3, []⟩])
 (.seq (.seq (.reg [⟨(some 4), .mv (.k (.int .i64 0)), none, 131072, 0, []⟩])
 (.block 0 (.loop [0, 3, 4] [0, 66048]
  (.seq (.seq (.reg [⟨(some 8), .mv (.t 4), none, 196608, 0, []⟩,
    ⟨(some 9), .mv (.t 0), none, 196864, 1, []⟩,
    ⟨(some 10), .len false (.t 9), none, 197120, 2, []⟩,
    ⟨(some 11), .bin .lss (.t 8) (.t 10), none, 197376, 3, []⟩])
  (.cond (.t 11)
   (.skip)
   (.exit 0)))
  (.seq (.block 1 (.reg [⟨(some 14), .mv (.t 3), none, 327680, 0, []⟩,
    ⟨(some 15), .mv (.t 4), none, 327936, 1, []⟩,
    ⟨(some 16), .mv (.t 0), none, 328192, 2, []⟩,
    ⟨(some 17), .mv (.t 4), none, 328448, 3, []⟩,
    ⟨(some 18), .iaddr 2 (.t 16) (.t 17), none, 328704, 4, []⟩,
    ⟨(some 19), .load 2 true (.t 18), none, 328960, 5, []⟩,
    ⟨(some 20), .call 118 [(.t 19)] true, none, 329216, 6, []⟩,
    ⟨(some 21), .iaddr 2 (.t 14) (.t 15), none, 329472, 7, []⟩,
    ⟨none, .store 2 (.t 21) (.t 20), none, 329728, 8, []⟩]))
  (.reg [⟨(some 12), .mv (.t 4), none, 262144, 0, []⟩,
    ⟨(some 13), .bin .add (.t 12) (.k (.int .i64 1)), none, 262400, 1, []⟩,
    ⟨(some 4), .mv (.t 13), none, 262656, 2, []⟩]))))))
 (.seq (.reg [⟨(some 22), .mv (.t 3), none, 393216, 0, []⟩,
   ⟨(some 2), .mv (.t 22), none, 393472, 1, []⟩])
 (.ret))))⟩
/-- loop.example/g00849/laws.eqShardS -/
def F67 : F := ⟨2, 27, [.t 4],
 .seq (.reg [⟨(some 4), .mv (.k (.bool false)), none, 0, 0, []⟩])
 (.seq (.seq (.reg [⟨(some 6), .mv (.t 0), none, 65536, 0, []⟩,
   ⟨(some 7), .len false (.t 6), none, 65792, 1, []⟩,
   ⟨(some 8), .mv (.t 1), none, 66048, 2, []⟩,
   ⟨(some 9), .len false (.t 8), none, 66304, 3, []⟩,
   ⟨(some 10), .bin .neq (.t 7) (.t 9), none, 66560, 4, []⟩])
 (.cond (.t 10)
  (.seq (.reg [⟨(some 4), .mv (.k (.bool false)), none, 131072, 0, []⟩])
  (.ret))
  (.skip)))
 (.seq (.seq (.reg [⟨(some 5), .mv (.k (.int .i64 0)), none, 196608, 0, []⟩])
 (.block 0 (.loop [0, 1, 5] []
  (.seq (.seq (.reg [⟨(some 11), .mv (.t 5), none, 262144, 0, []⟩,
    ⟨(some 12), .mv (.t 0), none, 262400, 1, []⟩,
    ⟨(some 13), .len false (.t 12), none, 262656, 2, []⟩,
    ⟨(some 14), .bin .lss (.t 11) (.t 13), none, 262912, 3, []⟩])
  (.cond (.t 14)
   (.skip)
   (.exit 0)))
  (.seq (.block 1 (.seq (.reg [⟨(some 17), .mv (.t 0), none, 393216, 0, []⟩,
    ⟨(some 18), .mv (.t 5), none, 393472, 1, []⟩,
    ⟨(some 19), .iaddr 2 (.t 17) (.t 18), none, 393728, 2, []⟩,
    ⟨(some 20), .load 2 true (.t 19), none, 393984, 3, []⟩,
    ⟨(some 21), .mv (.t 1), none, 394240, 4, []⟩,
    ⟨(some 22), .mv (.t 5), none, 394496, 5, []⟩,
    ⟨(some 23), .iaddr 2 (.t 21) (.t 22), none, 394752, 6, []⟩,
    ⟨(some 24), .load 2 true (.t 23), none, 395008, 7, []⟩,
    ⟨(some 25), .call 119 [(.t 20), (.t 24)] true, none, 395264, 8, []⟩,
    ⟨(some 26), .not (.t 25), none, 395520, 9, []⟩])
  (.cond (.t 26)
   (.seq (.reg [⟨(some 4), .mv (.k (.bool false)), none, 458752, 0, []⟩])
   (.ret))
   (.skip))))
  (.reg [⟨(some 15), .mv (.t 5), none, 327680, 0, []⟩,
    ⟨(some 16), .bin .add (.t 15) (.k (.int .i64 1)), none, 327936, 1, []⟩,
    ⟨(some 5), .mv (.t 16), none, 328192, 2, []⟩]))))))
 (.seq (.reg [⟨(some 4), .mv (.k (.bool true)), none, 524288, 0, []⟩])
 (.ret))))⟩
/-- loop.example/g00849/spec.BodyOf -/
def F68 : F := ⟨3, 22, [.t 6, .t 7],
 .seq (.reg [⟨(some 3), .box (.t 0), none, 0, 0, []⟩,
   ⟨(some 6), .mv (.k (.str ByteArray.empty)), none, 256, 1, []⟩,
   ⟨(some 7), .mv (.k (.int .i64 0)), none, 512, 2, []⟩])
 (.seq (.seq (.reg [⟨(some 8), .load 2 true (.t 3), none, 65536, 0, []⟩,
   ⟨(some 9), .mv (.t 1), none, 65792, 1, []⟩,
   ⟨(some 10), .mv (.t 2), none, 66048, 2, []⟩,
   ⟨(some 11), .call 116 [(.t 8), (.t 9), (.t 10)] true, none, 66304, 3, []⟩,
   ⟨(some 12), .not (.t 11), none, 66560, 4, []⟩])
 (.cond (.t 12)
  (.seq (.reg [⟨(some 6), .mv (.k (.str ByteArray.empty)), none, 131072, 0, []⟩,
    ⟨(some 7), .mv (.k (.int .i64 1)), none, 131328, 1, []⟩])
  (.ret))
  (.skip)))
 (.seq (.seq (.reg [⟨(some 13), .mv (.t 2), none, 196608, 0, []⟩,
   ⟨(some 14), .len false (.t 13), none, 196864, 1, []⟩,
   ⟨(some 15), .faddr 0 (.t 3), none, 197120, 2, []⟩,
   ⟨(some 16), .load 1 false (.t 15), none, 197376, 3, []⟩,
   ⟨(some 17), .bin .lss (.t 14) (.t 16), none, 197632, 4, []⟩])
 (.cond (.t 17)
  (.seq (.reg [⟨(some 6), .mv (.k (.str ByteArray.empty)), none, 262144, 0, []⟩,
    ⟨(some 7), .mv (.k (.int .i64 8)), none, 262400, 1, []⟩])
  (.ret))
  (.skip)))
 (.seq (.reg [⟨(some 18), .load 2 true (.t 3), none, 327680, 0, []⟩,
   ⟨(some 19), .mv (.t 1), none, 327936, 1, []⟩,
   ⟨(some 20), .mv (.t 2), none, 328192, 2, []⟩,
   ⟨(some 21), .call 120 [(.t 18), (.t 19), (.t 20)] true, none, 328448, 3, []⟩,
   ⟨(some 6), .mv (.t 21), none, 328704, 4, []⟩,
   ⟨(some 7), .mv (.k (.int .i64 0)), none, 328960, 5, []⟩])
 (.ret))))⟩
/-- loop.example/g00849/spec.l04Code -/
def F69 : F := ⟨1, 11, [.t 2],
 .seq (.reg [⟨(some 1), .box (.t 0), none, 0, 0, []⟩,
   ⟨(some 2), .mv (.k (.bool false)), none, 256, 1, []⟩])
 (.seq (.reg [⟨(some 3), .faddr 0 (.t 1), none, 65536, 0, []⟩,
   ⟨(some 4), .load 1 false (.t 3), none, 65792, 1, []⟩,
   ⟨(some 5), .call 70 [(.t 4), (.k (.int .i64 1)), (.k (.int .i64 4))] true, none, 66048, 2, []⟩,
   ⟨(some 6), .mv (.t 5), none, 66304, 3, []⟩,
   ⟨(some 7), .faddr 1 (.t 1), (some (some 6, true)), 66560, 4, []⟩,
   ⟨(some 8), .load 1 false (.t 7), (some (some 6, true)), 66816, 5, []⟩,
   ⟨(some 9), .call 70 [(.t 8), (.k (.int .i64 0)), (.k (.int .i64 3))] true, (some (some 6, true)), 67072, 6, []⟩,
   ⟨(some 10), .pick (.t 6) (.t 9) (.k (.bool false)), none, 67328, 7, []⟩,
   ⟨(some 2), .mv (.t 10), none, 67584, 8, []⟩])
 (.ret))⟩
/-- loop.example/g00849/spec.l00In -/
def F70 : F := ⟨3, 15, [.t 6],
 .seq (.reg [⟨(some 6), .mv (.k (.bool false)), none, 0, 0, []⟩])
 (.seq (.reg [⟨(some 7), .mv (.t 0), none, 65536, 0, []⟩,
   ⟨(some 8), .mv (.t 1), none, 65792, 1, []⟩,
   ⟨(some 9), .bin .geq (.t 7) (.t 8), none, 66048, 2, []⟩,
   ⟨(some 10), .mv (.t 9), none, 66304, 3, []⟩,
   ⟨(some 11), .mv (.t 0), (some (some 10, true)), 66560, 4, []⟩,
   ⟨(some 12), .mv (.t 2), (some (some 10, true)), 66816, 5, []⟩,
   ⟨(some 13), .bin .leq (.t 11) (.t 12), (some (some 10, true)), 67072, 6, []⟩,
   ⟨(some 14), .pick (.t 10) (.t 13) (.k (.bool false)), none, 67328, 7, []⟩,
   ⟨(some 6), .mv (.t 14), none, 67584, 8, []⟩])
 (.ret))⟩
/-- loop.example/g00849/spec.l04Shards -/
def F71 : F := ⟨2, 14, [.t 4],
 .seq (.reg [⟨(some 2), .box (.t 0), none, 0, 0, []⟩,
   ⟨(some 4), .nil0 true 1, none, 256, 1, []⟩])
 (.seq (.reg [⟨(some 5), .faddr 0 (.t 2), none, 65536, 0, []⟩,
   ⟨(some 6), .load 1 false (.t 5), none, 65792, 1, []⟩,
   ⟨(some 7), .faddr 1 (.t 2), none, 66048, 2, []⟩,
   ⟨(some 8), .load 1 false (.t 7), none, 66304, 3, []⟩,
   ⟨(some 9), .call 121 [(.t 6), (.t 8)] false, none, 66560, 4, [(.t 2)]⟩,
   ⟨(some 10), .load 2 true (.t 2), none, 66816, 5, []⟩,
   ⟨(some 11), .mv (.t 1), none, 67072, 6, []⟩,
   ⟨(some 12), .call 122 [(.t 10), (.t 11)] false, none, 67328, 7, []⟩,
   ⟨(some 13), .call 89 [(.t 9), (.t 12)] false, none, 67584, 8, []⟩,
   ⟨(some 4), .mv (.t 13), none, 67840, 9, []⟩])
 (.ret))⟩
/-- loop.example/g00849/impl.CodeOk -/
def F72 : F := ⟨1, 11, [.t 2],
 .seq (.reg [⟨(some 1), .box (.t 0), none, 0, 0, []⟩,
   ⟨(some 2), .mv (.k (.bool false)), none, 256, 1, []⟩])
 (.seq (.reg [⟨(some 3), .faddr 0 (.t 1), none, 65536, 0, []⟩,
   ⟨(some 4), .load 1 false (.t 3), none, 65792, 1, []⟩,
   ⟨(some 5), .call 78 [(.t 4), (.k (.int .i64 1)), (.k (.int .i64 4))] true, none, 66048, 2, []⟩,
   ⟨(some 6), .mv (.t 5), none, 66304, 3, []⟩,
   ⟨(some 7), .faddr 1 (.t 1), (some (some 6, true)), 66560, 4, []⟩,
   ⟨(some 8), .load 1 false (.t 7), (some (some 6, true)), 66816, 5, []⟩,
   ⟨(some 9), .call 78 [(.t 8), (.k (.int .i64 0)), (.k (.int .i64 3))] true, (some (some 6, true)), 67072, 6, []⟩,
   ⟨(some 10), .pick (.t 6) (.t 9) (.k (.bool false)), none, 67328, 7, []⟩,
   ⟨(some 2), .mv (.t 10), none, 67584, 8, []⟩])
 (.ret))⟩
/-- (loop.example/g00849/impl.Code).isPos -/
def F73 : F := ⟨2, 10, [.t 4],
 .seq (.reg [⟨(some 2), .box (.t 0), none, 0, 0, []⟩,
   ⟨(some 4), .mv (.k (.bool false)), none, 256, 1, []⟩])
 (.seq (.reg [⟨(some 5), .mv (.t 1), none, 65536, 0, []⟩,
   ⟨(some 6), .load 2 true (.t 2), none, 65792, 1, []⟩,
   ⟨(some 7), .call 81 [(.t 6)] true, none, 66048, 2, []⟩,
   ⟨(some 8), .bin .sub (.t 7) (.k (.int .i64 1)), none, 66304, 3, []⟩,
   ⟨(some 9), .call 78 [(.t 5), (.k (.int .i64 0)), (.t 8)] true, none, 66560, 4, []⟩,
   ⟨(some 4), .mv (.t 9), none, 66816, 5, []⟩])
 (.ret))⟩
/-- (loop.example/g00849/impl.Code).shards -/
def F74 : F := ⟨2, 44, [.t 4],
 .seq (.reg [⟨(some 2), .box (.t 0), none, 0, 0, []⟩,
   ⟨(some 4), .nil0 true 1, none, 256, 1, []⟩])
 (.seq (.reg [⟨(some 9), .load 2 true (.t 2), none, 65536, 0, []⟩,
   ⟨(some 10), .mv (.t 1), none, 65792, 1, []⟩,
   ⟨(some 11), .len true (.t 10), none, 66048, 2, []⟩,
   ⟨(some 12), .call 96 [(.t 9), (.t 11)] true, none, 66304, 3, []⟩,
   ⟨(some 5), .mv (.t 12), none, 66560, 4, []⟩])
 (.seq (.reg [⟨(some 13), .mv (.t 1), none, 131072, 0, []⟩,
   ⟨(some 14), .mv (.t 5), none, 131328, 1, []⟩,
   ⟨(some 15), .faddr 0 (.t 2), none, 131584, 2, []⟩,
   ⟨(some 16), .load 1 false (.t 15), none, 131840, 3, []⟩,
   ⟨(some 17), .bin .mul (.t 14) (.t 16), none, 132096, 4, []⟩,
   ⟨(some 18), .mv (.t 1), none, 132352, 5, []⟩,
   ⟨(some 19), .len true (.t 18), none, 132608, 6, []⟩,
   ⟨(some 20), .bin .sub (.t 17) (.t 19), none, 132864, 7, []⟩,
   ⟨(some 21), .call 123 [(.k (.str ⟨#[0]⟩)), (.t 20)] true, none, 133120, 8, []⟩,
   ⟨(some 22), .bin .add (.t 13) (.t 21), none, 133376, 9, []⟩,
   ⟨(some 6), .mv (.t 22), none, 133632, 10, []⟩])
 (.seq (.reg [⟨(some 7), .nil0 true 1, none, 196608, 0, []⟩])
 (.seq (.seq (.reg [⟨(some 23), .faddr 0 (.t 2), none, 262144, 0, []⟩,
   ⟨(some 24), .load 1 false (.t 23), none, 262400, 1, []⟩,
   ⟨(some 25), .mv (.k (.int .i64 0)), none, 262656, 2, []⟩])
 (.block 0 (.loop [2, 5, 6, 7, 24, 25] [0, 1, 2, 3, 4, 5, 256, 196608, 590336, 590337, 590338, 590339]
  (.seq (.reg [⟨(some 26), .bin .lss (.t 25) (.t 24), none, 327680, 0, []⟩])
  (.seq (.cond (.t 26)
   (.skip)
   (.exit 0))
  (.seq (.block 1 (.seq (.reg [⟨(some 27), .mv (.t 25), none, 393216, 0, []⟩,
    ⟨(some 8), .mv (.t 27), none, 393472, 1, []⟩])
  (.reg [⟨(some 28), .mv (.t 7), none, 458752, 0, []⟩,
    ⟨(some 29), .mv (.t 6), none, 459008, 1, []⟩,
    ⟨(some 30), .mv (.t 8), none, 459264, 2, []⟩,
    ⟨(some 31), .mv (.t 5), none, 459520, 3, []⟩,
    ⟨(some 32), .bin .mul (.t 30) (.t 31), none, 459776, 4, []⟩,
    ⟨(some 33), .mv (.t 8), none, 460032, 5, []⟩,
    ⟨(some 34), .bin .add (.t 33) (.k (.int .i64 1)), none, 460288, 6, []⟩,
    ⟨(some 35), .mv (.t 5), none, 460544, 7, []⟩,
    ⟨(some 36), .bin .mul (.t 34) (.t 35), none, 460800, 8, []⟩,
    ⟨(some 37), .scut (.t 29) (some (.t 32)) (some (.t 36)), none, 461056, 9, []⟩,
    ⟨(some 38), .bslice true 1 [(.str ByteArray.empty)] 1 [(0, (.t 37))], none, 461312, 10, []⟩,
    ⟨(some 39), .app true 1 16 (.t 28) (.t 38), none, 461568, 11, []⟩,
    ⟨(some 7), .mv (.t 39), none, 461824, 12, []⟩])))
  (.reg [⟨(some 40), .bin .add (.t 25) (.k (.int .i64 1)), none, 524288, 0, []⟩,
    ⟨(some 25), .mv (.t 40), none, 524544, 1, []⟩])))))))
 (.seq (.reg [⟨(some 41), .load 2 true (.t 2), none, 589824, 0, []⟩,
   ⟨(some 42), .mv (.t 7), none, 590080, 1, []⟩,
   ⟨(some 43), .call 102 [(.t 41), (.t 42)] false, none, 590336, 2, []⟩,
   ⟨(some 4), .mv (.t 43), none, 590592, 3, []⟩])
 (.ret))))))⟩
/-- loop.example/g00849/laws.markText -/
def F75 : F := ⟨1, 20, [.t 2],
 .seq (.reg [⟨(some 2), .mv (.k (.str ByteArray.empty)), none, 0, 0, []⟩])
 (.seq (.seq (.reg [⟨(some 4), .mv (.t 0), none, 65536, 0, []⟩,
   ⟨(some 5), .bin .leq (.t 4) (.k (.int .i64 0)), none, 65792, 1, []⟩])
 (.cond (.t 5)
  (.seq (.reg [⟨(some 2), .mv (.k (.str ⟨#[109, 48]⟩)), none, 131072, 0, []⟩])
  (.ret))
  (.skip)))
 (.seq (.reg [⟨(some 3), .mv (.k (.str ByteArray.empty)), none, 196608, 0, []⟩])
 (.seq (.block 0 (.loop [0, 3] []
  (.seq (.seq (.reg [⟨(some 6), .mv (.t 0), none, 262144, 0, []⟩,
    ⟨(some 7), .bin .gtr (.t 6) (.k (.int .i64 0)), none, 262400, 1, []⟩])
  (.cond (.t 7)
   (.skip)
   (.exit 0)))
  (.block 1 (.seq (.reg [⟨(some 8), .mv (.t 0), none, 327680, 0, []⟩,
    ⟨(some 9), .bin .rem (.t 8) (.k (.int .i64 10)), none, 327936, 1, []⟩,
    ⟨(some 10), .bin .add (.k (.int .i64 48)) (.t 9), none, 328192, 2, []⟩,
    ⟨(some 11), .conv .u8 (.t 10), none, 328448, 3, []⟩,
    ⟨(some 12), .bslice true 1 [(.int .u8 0)] 1 [(0, (.t 11))], none, 328704, 4, []⟩,
    ⟨(some 13), .b2s (.t 12), none, 328960, 5, []⟩,
    ⟨(some 14), .mv (.t 3), none, 329216, 6, []⟩,
    ⟨(some 15), .bin .add (.t 13) (.t 14), none, 329472, 7, []⟩,
    ⟨(some 3), .mv (.t 15), none, 329728, 8, []⟩])
  (.reg [⟨(some 16), .mv (.t 0), none, 393216, 0, []⟩,
    ⟨(some 17), .bin .quo (.t 16) (.k (.int .i64 10)), none, 393472, 1, []⟩,
    ⟨(some 0), .mv (.t 17), none, 393728, 2, []⟩]))))))
 (.seq (.reg [⟨(some 18), .mv (.t 3), none, 458752, 0, []⟩,
   ⟨(some 19), .bin .add (.k (.str ⟨#[109]⟩)) (.t 18), none, 459008, 1, []⟩,
   ⟨(some 2), .mv (.t 19), none, 459264, 2, []⟩])
 (.ret)))))⟩
/-- loop.example/g00849/spec.l00From -/
def F76 : F := ⟨1, 6, [.t 2],
 .seq (.reg [⟨(some 2), .mv (.k .undef), none, 0, 0, []⟩])
 (.seq (.reg [⟨(some 3), .mv (.t 0), none, 65536, 0, []⟩,
   ⟨(some 4), .build [(.nil true 1), (.int .i64 0), (.int .u64 0)] [(0, 1, (.t 3))], none, 65792, 1, []⟩,
   ⟨(some 5), .box (.t 4), none, 66048, 2, []⟩,
   ⟨(some 2), .mv (.t 5), none, 66304, 3, []⟩])
 (.ret))⟩
/-- loop.example/g00849/spec.l04Draw -/
def F77 : F := ⟨1, 9, [.cell 2 2 true],
 .seq (.reg [⟨(some 2), .alloc [(.int .i64 0), (.int .i64 0)], none, 0, 0, []⟩])
 (.seq (.reg [⟨(some 3), .mv (.t 0), none, 65536, 0, []⟩,
   ⟨(some 4), .call 124 [(.t 3), (.k (.int .i64 4))] true, none, 65792, 1, []⟩,
   ⟨(some 5), .bin .add (.k (.int .i64 1)) (.t 4), none, 66048, 2, []⟩,
   ⟨(some 6), .mv (.t 0), none, 66304, 3, []⟩,
   ⟨(some 7), .call 124 [(.t 6), (.k (.int .i64 4))] true, none, 66560, 4, []⟩,
   ⟨(some 8), .build [(.int .i64 0), (.int .i64 0)] [(0, 1, (.t 5)), (1, 1, (.t 7))], none, 66816, 5, []⟩,
   ⟨none, .store 2 (.t 2) (.t 8), none, 67072, 6, []⟩])
 (.ret))⟩
/-- loop.example/g00849/impl.between -/
def F78 : F := ⟨3, 15, [.t 6],
 .seq (.reg [⟨(some 6), .mv (.k (.bool false)), none, 0, 0, []⟩])
 (.seq (.reg [⟨(some 7), .mv (.t 0), none, 65536, 0, []⟩,
   ⟨(some 8), .mv (.t 1), none, 65792, 1, []⟩,
   ⟨(some 9), .bin .geq (.t 7) (.t 8), none, 66048, 2, []⟩,
   ⟨(some 10), .mv (.t 9), none, 66304, 3, []⟩,
   ⟨(some 11), .mv (.t 0), (some (some 10, true)), 66560, 4, []⟩,
   ⟨(some 12), .mv (.t 2), (some (some 10, true)), 66816, 5, []⟩,
   ⟨(some 13), .bin .leq (.t 11) (.t 12), (some (some 10, true)), 67072, 6, []⟩,
   ⟨(some 14), .pick (.t 10) (.t 13) (.k (.bool false)), none, 67328, 7, []⟩,
   ⟨(some 6), .mv (.t 14), none, 67584, 8, []⟩])
 (.ret))⟩
/-- (loop.example/g00849/impl.Code).size -/
def F81 : F := ⟨1, 8, [.t 2],
 .seq (.reg [⟨(some 1), .box (.t 0), none, 0, 0, []⟩,
   ⟨(some 2), .mv (.k (.int .i64 0)), none, 256, 1, []⟩])
 (.seq (.reg [⟨(some 3), .faddr 0 (.t 1), none, 65536, 0, []⟩,
   ⟨(some 4), .load 1 false (.t 3), none, 65792, 1, []⟩,
   ⟨(some 5), .faddr 1 (.t 1), none, 66048, 2, []⟩,
   ⟨(some 6), .load 1 false (.t 5), none, 66304, 3, []⟩,
   ⟨(some 7), .bin .add (.t 4) (.t 6), none, 66560, 4, []⟩,
   ⟨(some 2), .mv (.t 7), none, 66816, 5, []⟩])
 (.ret))⟩
/-- slices.ContainsFunc[[]string,string] -/
def F82 : F := ⟨2, 9, [.t 4],
 .seq (.reg [⟨(some 4), .mv (.k (.bool false)), none, 0, 0, []⟩])
 (.seq (.reg [⟨(some 5), .mv (.t 0), none, 65536, 0, []⟩,
   ⟨(some 6), .mv (.t 1), none, 65792, 1, []⟩,
   ⟨(some 7), .call 127 [(.t 5), (.t 6)] true, none, 66048, 2, []⟩,
   ⟨(some 8), .bin .geq (.t 7) (.k (.int .i64 0)), none, 66304, 3, []⟩,
   ⟨(some 4), .mv (.t 8), none, 66560, 4, []⟩])
 (.ret))⟩
/-- loop.example/g00849/laws.szInt64S -/
def F87 : F := ⟨2, 12, [.t 4],
 .seq (.reg [⟨(some 4), .mv (.k (.int .i64 0)), none, 0, 0, []⟩])
 (.seq (.reg [⟨(some 5), .mv (.t 1), none, 65536, 0, []⟩,
   ⟨(some 6), .mv (.t 0), none, 65792, 1, []⟩,
   ⟨(some 7), .len false (.t 6), none, 66048, 2, []⟩,
   ⟨(some 8), .bin .sub (.t 5) (.t 7), none, 66304, 3, []⟩,
   ⟨(some 1), .mv (.t 8), none, 66560, 4, []⟩])
 (.seq (.seq (.reg [⟨(some 9), .mv (.t 1), none, 131072, 0, []⟩,
   ⟨(some 10), .bin .lss (.t 9) (.k (.int .i64 0)), none, 131328, 1, []⟩])
 (.cond (.t 10)
  (.seq (.reg [⟨(some 4), .mv (.k (.int .i64 (-1))), none, 196608, 0, []⟩])
  (.ret))
  (.skip)))
 (.seq (.reg [⟨(some 11), .mv (.t 1), none, 262144, 0, []⟩,
   ⟨(some 4), .mv (.t 11), none, 262400, 1, []⟩])
 (.ret))))⟩
/-- loop.example/g00849/spec.l03OK -/
def F88 : F := ⟨1, 39, [.t 2],
 .seq (.reg [⟨(some 1), .box (.t 0), none, 0, 0, []⟩,
   ⟨(some 2), .mv (.k (.bool false)), none, 256, 1, []⟩])
 (.seq (.seq (.reg [⟨(some 4), .faddr 0 (.t 1), none, 65536, 0, []⟩,
   ⟨(some 5), .load 1 false (.t 4), none, 65792, 1, []⟩,
   ⟨(some 6), .call 70 [(.t 5), (.k (.int .i64 1)), (.k (.int .i64 8))] true, none, 66048, 2, []⟩,
   ⟨(some 7), .not (.t 6), none, 66304, 3, []⟩,
   ⟨(some 8), .mv (.t 7), none, 66560, 4, []⟩,
   ⟨(some 9), .faddr 1 (.t 1), (some (some 8, false)), 66816, 5, []⟩,
   ⟨(some 10), .load 1 false (.t 9), (some (some 8, false)), 67072, 6, []⟩,
   ⟨(some 11), .call 70 [(.t 10), (.k (.int .i64 1)), (.k (.int .i64 8))] true, (some (some 8, false)), 67328, 7, []⟩,
   ⟨(some 12), .not (.t 11), (some (some 8, false)), 67584, 8, []⟩,
   ⟨(some 13), .pick (.t 8) (.k (.bool true)) (.t 12), none, 67840, 9, []⟩,
   ⟨(some 14), .mv (.t 13), none, 68096, 10, []⟩,
   ⟨(some 15), .faddr 2 (.t 1), (some (some 14, false)), 68352, 11, []⟩,
   ⟨(some 16), .load 1 false (.t 15), (some (some 14, false)), 68608, 12, []⟩,
   ⟨(some 17), .len false (.t 16), (some (some 14, false)), 68864, 13, []⟩,
   ⟨(some 18), .faddr 0 (.t 1), (some (some 14, false)), 69120, 14, []⟩,
   ⟨(some 19), .load 1 false (.t 18), (some (some 14, false)), 69376, 15, []⟩,
   ⟨(some 20), .faddr 1 (.t 1), (some (some 14, false)), 69632, 16, []⟩,
   ⟨(some 21), .load 1 false (.t 20), (some (some 14, false)), 69888, 17, []⟩,
   ⟨(some 22), .bin .mul (.t 19) (.t 21), (some (some 14, false)), 70144, 18, []⟩,
   ⟨(some 23), .bin .neq (.t 17) (.t 22), (some (some 14, false)), 70400, 19, []⟩,
   ⟨(some 24), .pick (.t 14) (.k (.bool true)) (.t 23), none, 70656, 20, []⟩])
 (.cond (.t 24)
  (.seq (.reg [⟨(some 2), .mv (.k (.bool false)), none, 131072, 0, []⟩])
  (.ret))
  (.skip)))
 (.seq (.seq (.reg [⟨(some 3), .mv (.k (.int .i64 0)), none, 196608, 0, []⟩])
 (.block 0 (.loop [1, 3] [0, 1, 2, 3, 4, 5]
  (.seq (.seq (.reg [⟨(some 25), .mv (.t 3), none, 262144, 0, []⟩,
    ⟨(some 26), .faddr 2 (.t 1), none, 262400, 1, []⟩,
    ⟨(some 27), .load 1 false (.t 26), none, 262656, 2, []⟩,
    ⟨(some 28), .len false (.t 27), none, 262912, 3, []⟩,
    ⟨(some 29), .bin .lss (.t 25) (.t 28), none, 263168, 4, []⟩])
  (.cond (.t 29)
   (.skip)
   (.exit 0)))
  (.seq (.block 1 (.seq (.reg [⟨(some 32), .faddr 2 (.t 1), none, 393216, 0, []⟩,
    ⟨(some 33), .load 1 false (.t 32), none, 393472, 1, []⟩,
    ⟨(some 34), .mv (.t 3), none, 393728, 2, []⟩,
    ⟨(some 35), .iaddr 1 (.t 33) (.t 34), none, 393984, 3, []⟩,
    ⟨(some 36), .load 1 false (.t 35), none, 394240, 4, []⟩,
    ⟨(some 37), .call 128 [(.t 36)] true, none, 394496, 5, []⟩,
    ⟨(some 38), .not (.t 37), none, 394752, 6, []⟩])
  (.cond (.t 38)
   (.seq (.reg [⟨(some 2), .mv (.k (.bool false)), none, 458752, 0, []⟩])
   (.ret))
   (.skip))))
  (.reg [⟨(some 30), .mv (.t 3), none, 327680, 0, []⟩,
    ⟨(some 31), .bin .add (.t 30) (.k (.int .i64 1)), none, 327936, 1, []⟩,
    ⟨(some 3), .mv (.t 31), none, 328192, 2, []⟩]))))))
 (.seq (.reg [⟨(some 2), .mv (.k (.bool true)), none, 524288, 0, []⟩])
 (.ret))))⟩
/-- loop.example/g00849/spec.l03Pieces -/
def F89 : F := ⟨2, 48, [.t 4],
 .seq (.reg [⟨(some 2), .box (.t 0), none, 0, 0, []⟩,
   ⟨(some 4), .nil0 true 1, none, 256, 1, []⟩])
 (.seq (.reg [⟨(some 9), .bslice true 1 [(.str ByteArray.empty)] 0 [], none, 65536, 0, []⟩,
   ⟨(some 5), .mv (.t 9), none, 65792, 1, []⟩])
 (.seq (.seq (.reg [⟨(some 6), .mv (.k (.int .i64 0)), none, 131072, 0, []⟩])
 (.block 0 (.loop [1, 2, 5, 6] [0, 1, 2, 3, 4, 5, 256, 65536]
  (.seq (.seq (.reg [⟨(some 10), .mv (.t 6), none, 196608, 0, []⟩,
    ⟨(some 11), .faddr 0 (.t 2), none, 196864, 1, []⟩,
    ⟨(some 12), .load 1 false (.t 11), none, 197120, 2, []⟩,
    ⟨(some 13), .bin .lss (.t 10) (.t 12), none, 197376, 3, []⟩])
  (.cond (.t 13)
   (.skip)
   (.exit 0)))
  (.seq (.block 1 (.seq (.reg [⟨(some 16), .mv (.t 1), none, 327680, 0, []⟩,
    ⟨(some 17), .iaddr 1 (.t 16) (.k (.int .i64 0)), none, 327936, 1, []⟩,
    ⟨(some 18), .load 1 false (.t 17), none, 328192, 2, []⟩,
    ⟨(some 19), .call 129 [(.k (.int .i64 0)), (.t 18)] true, none, 328448, 3, []⟩,
    ⟨(some 7), .mv (.t 19), none, 328704, 4, []⟩])
  (.seq (.seq (.reg [⟨(some 8), .mv (.k (.int .i64 0)), none, 393216, 0, []⟩])
  (.block 2 (.loop [1, 2, 5, 6, 7, 8] [0, 1, 2, 3, 4, 5, 256, 65536, 655872, 656128]
   (.seq (.seq (.reg [⟨(some 20), .mv (.t 8), none, 458752, 0, []⟩,
     ⟨(some 21), .faddr 1 (.t 2), none, 459008, 1, []⟩,
     ⟨(some 22), .load 1 false (.t 21), none, 459264, 2, []⟩,
     ⟨(some 23), .bin .lss (.t 20) (.t 22), none, 459520, 3, []⟩])
   (.cond (.t 23)
    (.skip)
    (.exit 2)))
   (.seq (.block 3 (.reg [⟨(some 26), .mv (.t 7), none, 589824, 0, []⟩,
     ⟨(some 27), .faddr 2 (.t 2), none, 590080, 1, []⟩,
     ⟨(some 28), .load 1 false (.t 27), none, 590336, 2, []⟩,
     ⟨(some 29), .mv (.t 6), none, 590592, 3, []⟩,
     ⟨(some 30), .faddr 1 (.t 2), none, 590848, 4, []⟩,
     ⟨(some 31), .load 1 false (.t 30), none, 591104, 5, []⟩,
     ⟨(some 32), .bin .mul (.t 29) (.t 31), none, 591360, 6, []⟩,
     ⟨(some 33), .mv (.t 8), none, 591616, 7, []⟩,
     ⟨(some 34), .bin .add (.t 32) (.t 33), none, 591872, 8, []⟩,
     ⟨(some 35), .iaddr 1 (.t 28) (.t 34), none, 592128, 9, []⟩,
     ⟨(some 36), .load 1 false (.t 35), none, 592384, 10, []⟩,
     ⟨(some 37), .mv (.t 1), none, 592640, 11, []⟩,
     ⟨(some 38), .mv (.t 8), none, 592896, 12, []⟩,
     ⟨(some 39), .iaddr 1 (.t 37) (.t 38), none, 593152, 13, []⟩,
     ⟨(some 40), .load 1 false (.t 39), none, 593408, 14, []⟩,
     ⟨(some 41), .call 129 [(.t 36), (.t 40)] true, none, 593664, 15, []⟩,
     ⟨(some 42), .call 130 [(.t 26), (.t 41)] true, none, 593920, 16, []⟩,
     ⟨(some 7), .mv (.t 42), none, 594176, 17, []⟩]))
   (.reg [⟨(some 24), .mv (.t 8), none, 524288, 0, []⟩,
     ⟨(some 25), .bin .add (.t 24) (.k (.int .i64 1)), none, 524544, 1, []⟩,
     ⟨(some 8), .mv (.t 25), none, 524800, 2, []⟩]))))))
  (.reg [⟨(some 43), .mv (.t 5), none, 655360, 0, []⟩,
    ⟨(some 44), .mv (.t 7), none, 655616, 1, []⟩,
    ⟨(some 45), .bslice true 1 [(.str ByteArray.empty)] 1 [(0, (.t 44))], none, 655872, 2, []⟩,
    ⟨(some 46), .app true 1 16 (.t 43) (.t 45), none, 656128, 3, []⟩,
    ⟨(some 5), .mv (.t 46), none, 656384, 4, []⟩]))))
  (.reg [⟨(some 14), .mv (.t 6), none, 262144, 0, []⟩,
    ⟨(some 15), .bin .add (.t 14) (.k (.int .i64 1)), none, 262400, 1, []⟩,
    ⟨(some 6), .mv (.t 15), none, 262656, 2, []⟩]))))))
 (.seq (.reg [⟨(some 47), .mv (.t 5), none, 720896, 0, []⟩,
   ⟨(some 4), .mv (.t 47), none, 721152, 1, []⟩])
 (.ret))))⟩
/-- loop.example/g00849/laws.toInt64S -/
def F90 : F := ⟨1, 22, [.t 2],
 .seq (.reg [⟨(some 2), .nil0 true 1, none, 0, 0, []⟩])
 (.seq (.reg [⟨(some 5), .mv (.t 0), none, 65536, 0, []⟩,
   ⟨(some 6), .len false (.t 5), none, 65792, 1, []⟩,
   ⟨(some 7), .mksl true 1 8 [(.int .i64 0)] (.t 6) (.t 6), none, 66048, 2, []⟩,
   ⟨(some 3), .mv (.t 7), none, 66304, 3, []⟩])
 (.seq (.seq (.reg [⟨(some 4), .mv (.k (.int .i64 0)), none, 131072, 0, []⟩])
 (.block 0 (.loop [0, 3, 4] [0, 66048]
  (.seq (.seq (.reg [⟨(some 8), .mv (.t 4), none, 196608, 0, []⟩,
    ⟨(some 9), .mv (.t 0), none, 196864, 1, []⟩,
    ⟨(some 10), .len false (.t 9), none, 197120, 2, []⟩,
    ⟨(some 11), .bin .lss (.t 8) (.t 10), none, 197376, 3, []⟩])
  (.cond (.t 11)
   (.skip)
   (.exit 0)))
  (.seq (.block 1 (.reg [⟨(some 14), .mv (.t 3), none, 327680, 0, []⟩,
    ⟨(some 15), .mv (.t 4), none, 327936, 1, []⟩,
    ⟨(some 16), .mv (.t 0), none, 328192, 2, []⟩,
    ⟨(some 17), .mv (.t 4), none, 328448, 3, []⟩,
    ⟨(some 18), .iaddr 1 (.t 16) (.t 17), none, 328704, 4, []⟩,
    ⟨(some 19), .load 1 false (.t 18), none, 328960, 5, []⟩,
    ⟨(some 20), .iaddr 1 (.t 14) (.t 15), none, 329216, 6, []⟩,
    ⟨none, .store 1 (.t 20) (.t 19), none, 329472, 7, []⟩]))
  (.reg [⟨(some 12), .mv (.t 4), none, 262144, 0, []⟩,
    ⟨(some 13), .bin .add (.t 12) (.k (.int .i64 1)), none, 262400, 1, []⟩,
    ⟨(some 4), .mv (.t 13), none, 262656, 2, []⟩]))))))
 (.seq (.reg [⟨(some 21), .mv (.t 3), none, 393216, 0, []⟩,
   ⟨(some 2), .mv (.t 21), none, 393472, 1, []⟩])
 (.ret))))⟩
/-- loop.example/g00849/impl.MatrixOk -/
def F91 : F := ⟨1, 28, [.t 2],
 .seq (.reg [⟨(some 1), .box (.t 0), none, 0, 0, []⟩,
   ⟨(some 2), .mv (.k (.bool false)), none, 256, 1, []⟩])
 (.seq (.reg [⟨(some 3), .faddr 0 (.t 1), none, 65536, 0, []⟩,
   ⟨(some 4), .load 1 false (.t 3), none, 65792, 1, []⟩,
   ⟨(some 5), .call 78 [(.t 4), (.k (.int .i64 1)), (.k (.int .i64 8))] true, none, 66048, 2, []⟩,
   ⟨(some 6), .mv (.t 5), none, 66304, 3, []⟩,
   ⟨(some 7), .faddr 1 (.t 1), (some (some 6, true)), 66560, 4, []⟩,
   ⟨(some 8), .load 1 false (.t 7), (some (some 6, true)), 66816, 5, []⟩,
   ⟨(some 9), .call 78 [(.t 8), (.k (.int .i64 1)), (.k (.int .i64 8))] true, (some (some 6, true)), 67072, 6, []⟩,
   ⟨(some 10), .pick (.t 6) (.t 9) (.k (.bool false)), none, 67328, 7, []⟩,
   ⟨(some 11), .mv (.t 10), none, 67584, 8, []⟩,
   ⟨(some 12), .faddr 2 (.t 1), (some (some 11, true)), 67840, 9, []⟩,
   ⟨(some 13), .load 1 false (.t 12), (some (some 11, true)), 68096, 10, []⟩,
   ⟨(some 14), .len false (.t 13), (some (some 11, true)), 68352, 11, []⟩,
   ⟨(some 15), .faddr 0 (.t 1), (some (some 11, true)), 68608, 12, []⟩,
   ⟨(some 16), .load 1 false (.t 15), (some (some 11, true)), 68864, 13, []⟩,
   ⟨(some 17), .faddr 1 (.t 1), (some (some 11, true)), 69120, 14, []⟩,
   ⟨(some 18), .load 1 false (.t 17), (some (some 11, true)), 69376, 15, []⟩,
   ⟨(some 19), .bin .mul (.t 16) (.t 18), (some (some 11, true)), 69632, 16, []⟩,
   ⟨(some 20), .bin .eql (.t 14) (.t 19), (some (some 11, true)), 69888, 17, []⟩,
   ⟨(some 21), .pick (.t 11) (.t 20) (.k (.bool false)), none, 70144, 18, []⟩,
   ⟨(some 22), .mv (.t 21), none, 70400, 19, []⟩,
   ⟨(some 23), .faddr 2 (.t 1), (some (some 22, true)), 70656, 20, []⟩,
   ⟨(some 24), .load 1 false (.t 23), (some (some 22, true)), 70912, 21, []⟩,
   ⟨(some 25), .call 131 [(.t 24), (.k (.fn 132 []))] true, (some (some 22, true)), 71168, 22, []⟩,
   ⟨(some 26), .not (.t 25), (some (some 22, true)), 71424, 23, []⟩,
   ⟨(some 27), .pick (.t 22) (.t 26) (.k (.bool false)), none, 71680, 24, []⟩,
   ⟨(some 2), .mv (.t 27), none, 71936, 25, []⟩])
 (.ret))⟩
/-- loop.example/g00849/impl.MatPieces$1 -/
def F92 : F := ⟨2, 11, [.t 3],
 .seq (.reg [⟨(some 3), .mv (.k (.bool false)), none, 0, 0, []⟩])
 (.seq (.reg [⟨(some 4), .mv (.t 0), none, 65536, 0, []⟩,
   ⟨(some 5), .len true (.t 4), none, 65792, 1, []⟩,
   ⟨(some 6), .load 1 false (.t 1), none, 66048, 2, []⟩,
   ⟨(some 7), .iaddr 1 (.t 6) (.k (.int .i64 0)), none, 66304, 3, []⟩,
   ⟨(some 8), .load 1 false (.t 7), none, 66560, 4, []⟩,
   ⟨(some 9), .len true (.t 8), none, 66816, 5, []⟩,
   ⟨(some 10), .bin .neq (.t 5) (.t 9), none, 67072, 6, []⟩,
   ⟨(some 3), .mv (.t 10), none, 67328, 7, []⟩])
 (.ret))⟩
/-- (loop.example/g00849/impl.Matrix).pieces -/
def F93 : F := ⟨2, 44, [.t 4],
 .seq (.reg [⟨(some 2), .box (.t 0), none, 0, 0, []⟩,
   ⟨(some 4), .nil0 true 1, none, 256, 1, []⟩])
 (.seq (.reg [⟨(some 5), .nil0 true 1, none, 65536, 0, []⟩])
 (.seq (.seq (.reg [⟨(some 10), .faddr 0 (.t 2), none, 131072, 0, []⟩,
   ⟨(some 11), .load 1 false (.t 10), none, 131328, 1, []⟩,
   ⟨(some 12), .mv (.k (.int .i64 0)), none, 131584, 2, []⟩])
 (.block 0 (.loop [1, 2, 5, 11, 12] [0, 1, 2, 3, 4, 5, 256, 65536]
  (.seq (.reg [⟨(some 13), .bin .lss (.t 12) (.t 11), none, 196608, 0, []⟩])
  (.seq (.cond (.t 13)
   (.skip)
   (.exit 0))
  (.seq (.block 1 (.seq (.reg [⟨(some 14), .mv (.t 12), none, 262144, 0, []⟩,
    ⟨(some 6), .mv (.t 14), none, 262400, 1, []⟩])
  (.seq (.reg [⟨(some 15), .mv (.t 1), none, 327680, 0, []⟩,
    ⟨(some 16), .iaddr 1 (.t 15) (.k (.int .i64 0)), none, 327936, 1, []⟩,
    ⟨(some 17), .load 1 false (.t 16), none, 328192, 2, []⟩,
    ⟨(some 18), .len true (.t 17), none, 328448, 3, []⟩,
    ⟨(some 19), .call 123 [(.k (.str ⟨#[0]⟩)), (.t 18)] true, none, 328704, 4, []⟩,
    ⟨(some 7), .mv (.t 19), none, 328960, 5, []⟩])
  (.seq (.seq (.reg [⟨(some 20), .load 3 true (.t 2), none, 393216, 0, []⟩,
    ⟨(some 21), .mv (.t 6), none, 393472, 1, []⟩,
    ⟨(some 22), .call 134 [(.t 20), (.t 21)] false, none, 393728, 2, []⟩,
    ⟨(some 23), .len false (.t 22), none, 393984, 3, []⟩,
    ⟨(some 24), .mv (.k (.int .i64 0)), none, 394240, 4, []⟩])
  (.block 2 (.loop [1, 2, 5, 7, 11, 12, 22, 23, 24] [0, 1, 2, 3, 4, 5, 256, 65536, 393728, 393729, 393730, 393731, 721408, 721664]
   (.seq (.reg [⟨(some 25), .bin .lss (.t 24) (.t 23), none, 458752, 0, []⟩])
   (.seq (.cond (.t 25)
    (.skip)
    (.exit 2))
   (.seq (.block 3 (.seq (.reg [⟨(some 26), .mv (.t 24), none, 524288, 0, []⟩,
     ⟨(some 27), .iaddr 1 (.t 22) (.t 24), none, 524544, 1, []⟩,
     ⟨(some 28), .load 1 false (.t 27), none, 524800, 2, []⟩,
     ⟨(some 8), .mv (.t 26), none, 525056, 3, []⟩,
     ⟨(some 9), .mv (.t 28), none, 525312, 4, []⟩])
   (.reg [⟨(some 29), .mv (.t 7), none, 589824, 0, []⟩,
     ⟨(some 30), .mv (.t 9), none, 590080, 1, []⟩,
     ⟨(some 31), .mv (.t 1), none, 590336, 2, []⟩,
     ⟨(some 32), .mv (.t 8), none, 590592, 3, []⟩,
     ⟨(some 33), .iaddr 1 (.t 31) (.t 32), none, 590848, 4, []⟩,
     ⟨(some 34), .load 1 false (.t 33), none, 591104, 5, []⟩,
     ⟨(some 35), .call 136 [(.t 30), (.t 34)] true, none, 591360, 6, []⟩,
     ⟨(some 36), .call 135 [(.t 29), (.t 35)] true, none, 591616, 7, []⟩,
     ⟨(some 7), .mv (.t 36), none, 591872, 8, []⟩])))
   (.reg [⟨(some 37), .bin .add (.t 24) (.k (.int .i64 1)), none, 655360, 0, []⟩,
     ⟨(some 24), .mv (.t 37), none, 655616, 1, []⟩])))))))
  (.reg [⟨(some 38), .mv (.t 5), none, 720896, 0, []⟩,
    ⟨(some 39), .mv (.t 7), none, 721152, 1, []⟩,
    ⟨(some 40), .bslice true 1 [(.str ByteArray.empty)] 1 [(0, (.t 39))], none, 721408, 2, []⟩,
    ⟨(some 41), .app true 1 16 (.t 38) (.t 40), none, 721664, 3, []⟩,
    ⟨(some 5), .mv (.t 41), none, 721920, 4, []⟩])))))
  (.reg [⟨(some 42), .bin .add (.t 12) (.k (.int .i64 1)), none, 786432, 0, []⟩,
    ⟨(some 12), .mv (.t 42), none, 786688, 1, []⟩])))))))
 (.seq (.reg [⟨(some 43), .mv (.t 5), none, 851968, 0, []⟩,
   ⟨(some 4), .mv (.t 43), none, 852224, 1, []⟩])
 (.ret))))⟩
/-- loop.example/g00849/laws.eqInt64S -/
def F94 : F := ⟨2, 26, [.t 4],
 .seq (.reg [⟨(some 4), .mv (.k (.bool false)), none, 0, 0, []⟩])
 (.seq (.seq (.reg [⟨(some 6), .mv (.t 0), none, 65536, 0, []⟩,
   ⟨(some 7), .len false (.t 6), none, 65792, 1, []⟩,
   ⟨(some 8), .mv (.t 1), none, 66048, 2, []⟩,
   ⟨(some 9), .len false (.t 8), none, 66304, 3, []⟩,
   ⟨(some 10), .bin .neq (.t 7) (.t 9), none, 66560, 4, []⟩])
 (.cond (.t 10)
  (.seq (.reg [⟨(some 4), .mv (.k (.bool false)), none, 131072, 0, []⟩])
  (.ret))
  (.skip)))
 (.seq (.seq (.reg [⟨(some 5), .mv (.k (.int .i64 0)), none, 196608, 0, []⟩])
 (.block 0 (.loop [0, 1, 5] []
  (.seq (.seq (.reg [⟨(some 11), .mv (.t 5), none, 262144, 0, []⟩,
    ⟨(some 12), .mv (.t 0), none, 262400, 1, []⟩,
    ⟨(some 13), .len false (.t 12), none, 262656, 2, []⟩,
    ⟨(some 14), .bin .lss (.t 11) (.t 13), none, 262912, 3, []⟩])
  (.cond (.t 14)
   (.skip)
   (.exit 0)))
  (.seq (.block 1 (.seq (.reg [⟨(some 17), .mv (.t 0), none, 393216, 0, []⟩,
    ⟨(some 18), .mv (.t 5), none, 393472, 1, []⟩,
    ⟨(some 19), .iaddr 1 (.t 17) (.t 18), none, 393728, 2, []⟩,
    ⟨(some 20), .load 1 false (.t 19), none, 393984, 3, []⟩,
    ⟨(some 21), .mv (.t 1), none, 394240, 4, []⟩,
    ⟨(some 22), .mv (.t 5), none, 394496, 5, []⟩,
    ⟨(some 23), .iaddr 1 (.t 21) (.t 22), none, 394752, 6, []⟩,
    ⟨(some 24), .load 1 false (.t 23), none, 395008, 7, []⟩,
    ⟨(some 25), .bin .neq (.t 20) (.t 24), none, 395264, 8, []⟩])
  (.cond (.t 25)
   (.seq (.reg [⟨(some 4), .mv (.k (.bool false)), none, 458752, 0, []⟩])
   (.ret))
   (.skip))))
  (.reg [⟨(some 15), .mv (.t 5), none, 327680, 0, []⟩,
    ⟨(some 16), .bin .add (.t 15) (.k (.int .i64 1)), none, 327936, 1, []⟩,
    ⟨(some 5), .mv (.t 16), none, 328192, 2, []⟩]))))))
 (.seq (.reg [⟨(some 4), .mv (.k (.bool true)), none, 524288, 0, []⟩])
 (.ret))))⟩
/-- loop.example/g00849/laws.markInt64S -/
def F95 : F := ⟨2, 19, [.t 4],
 .seq (.reg [⟨(some 4), .mv (.k (.int .i64 0)), none, 0, 0, []⟩])
 (.seq (.seq (.reg [⟨(some 5), .mv (.k (.int .i64 0)), none, 65536, 0, []⟩])
 (.block 0 (.loop [0, 1, 5] []
  (.seq (.seq (.reg [⟨(some 6), .mv (.t 5), none, 131072, 0, []⟩,
    ⟨(some 7), .mv (.t 0), none, 131328, 1, []⟩,
    ⟨(some 8), .len false (.t 7), none, 131584, 2, []⟩,
    ⟨(some 9), .bin .lss (.t 6) (.t 8), none, 131840, 3, []⟩])
  (.cond (.t 9)
   (.skip)
   (.exit 0)))
  (.seq (.block 1 (.seq (.reg [⟨(some 12), .mv (.t 0), none, 262144, 0, []⟩,
    ⟨(some 13), .mv (.t 5), none, 262400, 1, []⟩,
    ⟨(some 14), .mv (.t 1), none, 262656, 2, []⟩,
    ⟨(some 15), .iaddr 1 (.t 12) (.t 13), none, 262912, 3, []⟩,
    ⟨none, .store 1 (.t 15) (.t 14), none, 263168, 4, []⟩])
  (.reg [⟨(some 16), .mv (.t 1), none, 327680, 0, []⟩,
    ⟨(some 17), .bin .add (.t 16) (.k (.int .i64 1)), none, 327936, 1, []⟩,
    ⟨(some 1), .mv (.t 17), none, 328192, 2, []⟩])))
  (.reg [⟨(some 10), .mv (.t 5), none, 196608, 0, []⟩,
    ⟨(some 11), .bin .add (.t 10) (.k (.int .i64 1)), none, 196864, 1, []⟩,
    ⟨(some 5), .mv (.t 11), none, 197120, 2, []⟩]))))))
 (.seq (.reg [⟨(some 18), .mv (.t 1), none, 393216, 0, []⟩,
   ⟨(some 4), .mv (.t 18), none, 393472, 1, []⟩])
 (.ret)))⟩
/-- (loop.example/g00849/impl.Code).piece -/
def F96 : F := ⟨2, 13, [.t 4],
 .seq (.reg [⟨(some 2), .box (.t 0), none, 0, 0, []⟩,
   ⟨(some 4), .mv (.k (.int .i64 0)), none, 256, 1, []⟩])
 (.seq (.reg [⟨(some 5), .mv (.t 1), none, 65536, 0, []⟩,
   ⟨(some 6), .faddr 0 (.t 2), none, 65792, 1, []⟩,
   ⟨(some 7), .load 1 false (.t 6), none, 66048, 2, []⟩,
   ⟨(some 8), .bin .add (.t 5) (.t 7), none, 66304, 3, []⟩,
   ⟨(some 9), .bin .sub (.t 8) (.k (.int .i64 1)), none, 66560, 4, []⟩,
   ⟨(some 10), .faddr 0 (.t 2), none, 66816, 5, []⟩,
   ⟨(some 11), .load 1 false (.t 10), none, 67072, 6, []⟩,
   ⟨(some 12), .bin .quo (.t 9) (.t 11), none, 67328, 7, []⟩,
   ⟨(some 4), .mv (.t 12), none, 67584, 8, []⟩])
 (.ret))⟩
/-- loop.example/g00849/impl.haveCode -/
def F97 : F := ⟨3, 19, [.t 6],
 .seq (.reg [⟨(some 3), .box (.t 0), none, 0, 0, []⟩,
   ⟨(some 6), .mv (.k (.int .i64 0)), none, 256, 1, []⟩])
 (.seq (.block 0 (.seq (.reg [⟨(some 8), .load 2 true (.t 3), none, 65536, 0, []⟩,
   ⟨(some 9), .mv (.t 1), none, 65792, 1, []⟩,
   ⟨(some 10), .mv (.t 2), none, 66048, 2, []⟩,
   ⟨(some 11), .call 43 [(.t 8), (.t 9), (.t 10)] true, none, 66304, 3, []⟩,
   ⟨(some 12), .not (.t 11), none, 66560, 4, []⟩,
   ⟨(some 7), .mv (.t 12), none, 66816, 5, []⟩])
 (.cond (.t 7)
  (.seq (.reg [⟨(some 6), .mv (.k (.int .i64 1)), none, 131072, 0, []⟩])
  (.ret))
  (.seq (.reg [⟨(some 14), .mv (.t 2), none, 196608, 0, []⟩,
    ⟨(some 15), .len false (.t 14), none, 196864, 1, []⟩,
    ⟨(some 16), .faddr 0 (.t 3), none, 197120, 2, []⟩,
    ⟨(some 17), .load 1 false (.t 16), none, 197376, 3, []⟩,
    ⟨(some 18), .bin .lss (.t 15) (.t 17), none, 197632, 4, []⟩,
    ⟨(some 13), .mv (.t 18), none, 197888, 5, []⟩])
  (.cond (.t 13)
   (.seq (.reg [⟨(some 6), .mv (.k (.int .i64 8)), none, 262144, 0, []⟩])
   (.ret))
   (.skip))))))
 (.seq (.reg [⟨(some 6), .mv (.k (.int .i64 0)), none, 327680, 0, []⟩])
 (.ret)))⟩
/-- (loop.example/g00849/impl.Code).recovered -/
def F99 : F := ⟨2, 45, [.t 4],
 .seq (.reg [⟨(some 2), .box (.t 0), none, 0, 0, []⟩,
   ⟨(some 4), .nil0 true 1, none, 256, 1, []⟩])
 (.seq (.reg [⟨(some 5), .nil0 true 1, none, 65536, 0, []⟩])
 (.seq (.reg [⟨(some 6), .nil0 true 1, none, 131072, 0, []⟩])
 (.seq (.seq (.reg [⟨(some 11), .mv (.t 1), none, 196608, 0, []⟩,
   ⟨(some 12), .faddr 0 (.t 2), none, 196864, 1, []⟩,
   ⟨(some 13), .load 1 false (.t 12), none, 197120, 2, []⟩,
   ⟨(some 14), .cut 2 (.t 11) none (some (.t 13)), none, 197376, 3, []⟩,
   ⟨(some 15), .len false (.t 14), none, 197632, 4, []⟩,
   ⟨(some 16), .mv (.k (.int .i64 0)), none, 197888, 5, []⟩])
 (.block 0 (.loop [2, 5, 6, 14, 15, 16] [0, 1, 2, 3, 4, 5, 256, 65536, 131072, 590848, 590849, 590850, 590851, 591360, 591361, 591362, 591363, 591616, 591617, 591618, 591619, 592640, 592643, 592897, 592898, 592899, 655872, 655873, 655874, 655875]
  (.seq (.reg [⟨(some 17), .bin .lss (.t 16) (.t 15), none, 262144, 0, []⟩])
  (.seq (.cond (.t 17)
   (.skip)
   (.exit 0))
  (.seq (.block 1 (.seq (.reg [⟨(some 18), .iaddr 2 (.t 14) (.t 16), none, 327680, 0, []⟩,
    ⟨(some 19), .load 2 true (.t 18), none, 327936, 1, []⟩,
    ⟨(some 8), .alloc [(.int .i64 0), (.str ByteArray.empty)], none, 328192, 2, []⟩,
    ⟨none, .store 2 (.t 8) (.t 19), none, 328448, 3, []⟩])
  (.seq (.reg [⟨(some 20), .mv (.t 5), none, 393216, 0, []⟩,
    ⟨(some 21), .faddr 0 (.t 8), none, 393472, 1, []⟩,
    ⟨(some 22), .load 1 false (.t 21), none, 393728, 2, []⟩,
    ⟨(some 23), .bslice true 1 [(.int .i64 0)] 1 [(0, (.t 22))], none, 393984, 3, []⟩,
    ⟨(some 24), .app true 1 8 (.t 20) (.t 23), none, 394240, 4, []⟩,
    ⟨(some 5), .mv (.t 24), none, 394496, 5, []⟩])
  (.reg [⟨(some 25), .mv (.t 6), none, 458752, 0, []⟩,
    ⟨(some 26), .faddr 1 (.t 8), none, 459008, 1, []⟩,
    ⟨(some 27), .load 1 false (.t 26), none, 459264, 2, []⟩,
    ⟨(some 28), .bslice true 1 [(.str ByteArray.empty)] 1 [(0, (.t 27))], none, 459520, 3, []⟩,
    ⟨(some 29), .app true 1 16 (.t 25) (.t 28), none, 459776, 4, []⟩,
    ⟨(some 6), .mv (.t 29), none, 460032, 5, []⟩]))))
  (.reg [⟨(some 30), .bin .add (.t 16) (.k (.int .i64 1)), none, 524288, 0, []⟩,
    ⟨(some 16), .mv (.t 30), none, 524544, 1, []⟩])))))))
 (.seq (.reg [⟨(some 32), .faddr 0 (.t 2), none, 589824, 0, []⟩,
   ⟨(some 33), .load 1 false (.t 32), none, 590080, 1, []⟩,
   ⟨(some 34), .faddr 1 (.t 2), none, 590336, 2, []⟩,
   ⟨(some 35), .load 1 false (.t 34), none, 590592, 3, []⟩,
   ⟨(some 36), .call 140 [(.t 33), (.t 35)] false, none, 590848, 4, []⟩,
   ⟨(some 37), .mv (.t 5), none, 591104, 5, []⟩,
   ⟨(some 38), .call 141 [(.t 36), (.t 37)] false, none, 591360, 6, []⟩,
   ⟨(some 39), .call 139 [(.t 38)] false, none, 591616, 7, []⟩,
   ⟨(some 31), .mv (.t 39), none, 591872, 8, []⟩,
   ⟨(some 40), .ext (.t 31) 0, none, 592128, 9, []⟩,
   ⟨(some 41), .ext (.t 31) 1, none, 592384, 10, []⟩,
   ⟨(some 9), .alloc [(.int .i64 0), (.int .i64 0), (.nil true 1)], none, 592640, 11, []⟩,
   ⟨none, .store 3 (.t 9) (.t 40), none, 592896, 12, []⟩,
   ⟨(some 10), .mv (.t 41), none, 593152, 13, []⟩])
 (.seq (.reg [⟨(some 42), .load 3 true (.t 9), none, 655360, 0, []⟩,
   ⟨(some 43), .mv (.t 6), none, 655616, 1, []⟩,
   ⟨(some 44), .call 93 [(.t 42), (.t 43)] false, none, 655872, 2, []⟩,
   ⟨(some 4), .mv (.t 44), none, 656128, 3, []⟩])
 (.ret))))))⟩
/-- (loop.example/g00849/impl.Code).encoded -/
def F102 : F := ⟨2, 12, [.t 4],
 .seq (.reg [⟨(some 2), .box (.t 0), none, 0, 0, []⟩,
   ⟨(some 4), .nil0 true 1, none, 256, 1, []⟩])
 (.seq (.reg [⟨(some 5), .faddr 0 (.t 2), none, 65536, 0, []⟩,
   ⟨(some 6), .load 1 false (.t 5), none, 65792, 1, []⟩,
   ⟨(some 7), .faddr 1 (.t 2), none, 66048, 2, []⟩,
   ⟨(some 8), .load 1 false (.t 7), none, 66304, 3, []⟩,
   ⟨(some 9), .call 140 [(.t 6), (.t 8)] false, none, 66560, 4, []⟩,
   ⟨(some 10), .mv (.t 1), none, 66816, 5, []⟩,
   ⟨(some 11), .call 93 [(.t 9), (.t 10)] false, none, 67072, 6, []⟩,
   ⟨(some 4), .mv (.t 11), none, 67328, 7, []⟩])
 (.ret))⟩
/-- (*loop.example/g00849/spec.l00Src).word -/
def F106 : F := ⟨2, 23, [.t 4],
 .seq (.reg [⟨(some 4), .mv (.k (.str ByteArray.empty)), none, 0, 0, []⟩])
 (.seq (.reg [⟨(some 7), .bslice true 1 [(.int .u8 0)] 0 [], none, 65536, 0, []⟩,
   ⟨(some 5), .mv (.t 7), none, 65792, 1, []⟩])
 (.seq (.seq (.reg [⟨(some 8), .mv (.t 0), none, 131072, 0, []⟩,
   ⟨(some 9), .mv (.t 1), none, 131328, 1, []⟩,
   ⟨(some 10), .call 124 [(.t 8), (.t 9)] true, none, 131584, 2, []⟩,
   ⟨(some 6), .mv (.t 10), none, 131840, 3, []⟩])
 (.block 0 (.loop [0, 5, 6] [65536]
  (.seq (.seq (.reg [⟨(some 11), .mv (.t 6), none, 196608, 0, []⟩,
    ⟨(some 12), .bin .gtr (.t 11) (.k (.int .i64 0)), none, 196864, 1, []⟩])
  (.cond (.t 12)
   (.skip)
   (.exit 0)))
  (.seq (.block 1 (.reg [⟨(some 15), .mv (.t 5), none, 327680, 0, []⟩,
    ⟨(some 16), .mv (.t 0), none, 327936, 1, []⟩,
    ⟨(some 17), .call 145 [(.t 16)] true, none, 328192, 2, []⟩,
    ⟨(some 18), .conv .u8 (.t 17), none, 328448, 3, []⟩,
    ⟨(some 19), .bslice true 1 [(.int .u8 0)] 1 [(0, (.t 18))], none, 328704, 4, []⟩,
    ⟨(some 20), .app true 1 1 (.t 15) (.t 19), none, 328960, 5, []⟩,
    ⟨(some 5), .mv (.t 20), none, 329216, 6, []⟩]))
  (.reg [⟨(some 13), .mv (.t 6), none, 262144, 0, []⟩,
    ⟨(some 14), .bin .sub (.t 13) (.k (.int .i64 1)), none, 262400, 1, []⟩,
    ⟨(some 6), .mv (.t 14), none, 262656, 2, []⟩]))))))
 (.seq (.reg [⟨(some 21), .mv (.t 5), none, 393216, 0, []⟩,
   ⟨(some 22), .b2s (.t 21), none, 393472, 1, []⟩,
   ⟨(some 4), .mv (.t 22), none, 393728, 2, []⟩])
 (.ret))))⟩
/-- loop.example/g00849/laws.szShard -/
def F115 : F := ⟨2, 13, [.t 4],
 .seq (.reg [⟨(some 2), .box (.t 0), none, 0, 0, []⟩,
   ⟨(some 4), .mv (.k (.int .i64 0)), none, 256, 1, []⟩])
 (.seq (.reg [⟨(some 5), .mv (.t 1), none, 65536, 0, []⟩,
   ⟨(some 6), .faddr 1 (.t 2), none, 65792, 1, []⟩,
   ⟨(some 7), .load 1 false (.t 6), none, 66048, 2, []⟩,
   ⟨(some 8), .len true (.t 7), none, 66304, 3, []⟩,
   ⟨(some 9), .bin .sub (.t 5) (.t 8), none, 66560, 4, []⟩,
   ⟨(some 1), .mv (.t 9), none, 66816, 5, []⟩])
 (.seq (.seq (.reg [⟨(some 10), .mv (.t 1), none, 131072, 0, []⟩,
   ⟨(some 11), .bin .lss (.t 10) (.k (.int .i64 0)), none, 131328, 1, []⟩])
 (.cond (.t 11)
  (.seq (.reg [⟨(some 4), .mv (.k (.int .i64 (-1))), none, 196608, 0, []⟩])
  (.ret))
  (.skip)))
 (.seq (.reg [⟨(some 12), .mv (.t 1), none, 262144, 0, []⟩,
   ⟨(some 4), .mv (.t 12), none, 262400, 1, []⟩])
 (.ret))))⟩
/-- loop.example/g00849/spec.l04Have -/
def F116 : F := ⟨3, 65, [.t 6],
 .seq (.reg [⟨(some 3), .box (.t 0), none, 0, 0, []⟩,
   ⟨(some 6), .mv (.k (.bool false)), none, 256, 1, []⟩])
 (.seq (.seq (.reg [⟨(some 8), .load 2 true (.t 3), none, 65536, 0, []⟩,
   ⟨(some 9), .call 69 [(.t 8)] true, none, 65792, 1, []⟩,
   ⟨(some 10), .not (.t 9), none, 66048, 2, []⟩,
   ⟨(some 11), .mv (.t 10), none, 66304, 3, []⟩,
   ⟨(some 12), .mv (.t 1), (some (some 11, false)), 66560, 4, []⟩,
   ⟨(some 13), .call 70 [(.t 12), (.k (.int .i64 0)), (.k (.int .i64 64))] true, (some (some 11, false)), 66816, 5, []⟩,
   ⟨(some 14), .not (.t 13), (some (some 11, false)), 67072, 6, []⟩,
   ⟨(some 15), .pick (.t 11) (.k (.bool true)) (.t 14), none, 67328, 7, []⟩])
 (.cond (.t 15)
  (.seq (.reg [⟨(some 6), .mv (.k (.bool false)), none, 131072, 0, []⟩])
  (.ret))
  (.skip)))
 (.seq (.seq (.reg [⟨(some 7), .mv (.k (.int .i64 0)), none, 196608, 0, []⟩])
 (.block 0 (.loop [1, 2, 3, 7] [0, 1, 2, 3, 4, 5]
  (.seq (.seq (.reg [⟨(some 16), .mv (.t 7), none, 262144, 0, []⟩,
    ⟨(some 17), .mv (.t 2), none, 262400, 1, []⟩,
    ⟨(some 18), .len false (.t 17), none, 262656, 2, []⟩,
    ⟨(some 19), .bin .lss (.t 16) (.t 18), none, 262912, 3, []⟩])
  (.cond (.t 19)
   (.skip)
   (.exit 0)))
  (.seq (.block 1 (.seq (.reg [⟨(some 22), .mv (.t 2), none, 393216, 0, []⟩,
    ⟨(some 23), .mv (.t 7), none, 393472, 1, []⟩,
    ⟨(some 24), .iaddr 2 (.t 22) (.t 23), none, 393728, 2, []⟩,
    ⟨(some 25), .faddr 0 (.t 24), none, 393984, 3, []⟩,
    ⟨(some 26), .load 1 false (.t 25), none, 394240, 4, []⟩,
    ⟨(some 27), .faddr 0 (.t 3), none, 394496, 5, []⟩,
    ⟨(some 28), .load 1 false (.t 27), none, 394752, 6, []⟩,
    ⟨(some 29), .faddr 1 (.t 3), none, 395008, 7, []⟩,
    ⟨(some 30), .load 1 false (.t 29), none, 395264, 8, []⟩,
    ⟨(some 31), .bin .add (.t 28) (.t 30), none, 395520, 9, []⟩,
    ⟨(some 32), .bin .sub (.t 31) (.k (.int .i64 1)), none, 395776, 10, []⟩,
    ⟨(some 33), .call 70 [(.t 26), (.k (.int .i64 0)), (.t 32)] true, none, 396032, 11, []⟩,
    ⟨(some 34), .not (.t 33), none, 396288, 12, []⟩,
    ⟨(some 35), .mv (.t 34), none, 396544, 13, []⟩,
    ⟨(some 36), .mv (.t 7), (some (some 35, false)), 396800, 14, []⟩,
    ⟨(some 37), .bin .gtr (.t 36) (.k (.int .i64 0)), (some (some 35, false)), 397056, 15, []⟩,
    ⟨(some 38), .mv (.t 37), (some (some 35, false)), 397312, 16, []⟩,
    ⟨(some 39), .mv (.t 2), (some (some 38, true)), 397568, 17, []⟩,
    ⟨(some 40), .mv (.t 7), (some (some 38, true)), 397824, 18, []⟩,
    ⟨(some 41), .iaddr 2 (.t 39) (.t 40), (some (some 38, true)), 398080, 19, []⟩,
    ⟨(some 42), .faddr 0 (.t 41), (some (some 38, true)), 398336, 20, []⟩,
    ⟨(some 43), .load 1 false (.t 42), (some (some 38, true)), 398592, 21, []⟩,
    ⟨(some 44), .mv (.t 2), (some (some 38, true)), 398848, 22, []⟩,
    ⟨(some 45), .mv (.t 7), (some (some 38, true)), 399104, 23, []⟩,
    ⟨(some 46), .bin .sub (.t 45) (.k (.int .i64 1)), (some (some 38, true)), 399360, 24, []⟩,
    ⟨(some 47), .iaddr 2 (.t 44) (.t 46), (some (some 38, true)), 399616, 25, []⟩,
    ⟨(some 48), .faddr 0 (.t 47), (some (some 38, true)), 399872, 26, []⟩,
    ⟨(some 49), .load 1 false (.t 48), (some (some 38, true)), 400128, 27, []⟩,
    ⟨(some 50), .bin .leq (.t 43) (.t 49), (some (some 38, true)), 400384, 28, []⟩,
    ⟨(some 51), .pick (.t 38) (.t 50) (.k (.bool false)), (some (some 35, false)), 400640, 29, []⟩,
    ⟨(some 52), .pick (.t 35) (.k (.bool true)) (.t 51), none, 400896, 30, []⟩,
    ⟨(some 53), .mv (.t 52), none, 401152, 31, []⟩,
    ⟨(some 54), .mv (.t 2), (some (some 53, false)), 401408, 32, []⟩,
    ⟨(some 55), .mv (.t 7), (some (some 53, false)), 401664, 33, []⟩,
    ⟨(some 56), .iaddr 2 (.t 54) (.t 55), (some (some 53, false)), 401920, 34, []⟩,
    ⟨(some 57), .faddr 1 (.t 56), (some (some 53, false)), 402176, 35, []⟩,
    ⟨(some 58), .load 1 false (.t 57), (some (some 53, false)), 402432, 36, []⟩,
    ⟨(some 59), .len true (.t 58), (some (some 53, false)), 402688, 37, []⟩,
    ⟨(some 60), .load 2 true (.t 3), (some (some 53, false)), 402944, 38, []⟩,
    ⟨(some 61), .mv (.t 1), (some (some 53, false)), 403200, 39, []⟩,
    ⟨(some 62), .call 148 [(.t 60), (.t 61)] true, (some (some 53, false)), 403456, 40, []⟩,
    ⟨(some 63), .bin .neq (.t 59) (.t 62), (some (some 53, false)), 403712, 41, []⟩,
    ⟨(some 64), .pick (.t 53) (.k (.bool true)) (.t 63), none, 403968, 42, []⟩])
  (.cond (.t 64)
   (.seq (.reg [⟨(some 6), .mv (.k (.bool false)), none, 458752, 0, []⟩])
   (.ret))
   (.skip))))
  (.reg [⟨(some 20), .mv (.t 7), none, 327680, 0, []⟩,
    ⟨(some 21), .bin .add (.t 20) (.k (.int .i64 1)), none, 327936, 1, []⟩,
    ⟨(some 7), .mv (.t 21), none, 328192, 2, []⟩]))))))
 (.seq (.reg [⟨(some 6), .mv (.k (.bool true)), none, 524288, 0, []⟩])
 (.ret))))⟩
/-- loop.example/g00849/spec.l04Anew -/
def F117 : F := ⟨2, 14, [.t 4],
 .seq (.reg [⟨(some 2), .box (.t 0), none, 0, 0, []⟩,
   ⟨(some 4), .nil0 true 1, none, 256, 1, []⟩])
 (.seq (.reg [⟨(some 5), .faddr 0 (.t 2), none, 65536, 0, []⟩,
   ⟨(some 6), .load 1 false (.t 5), none, 65792, 1, []⟩,
   ⟨(some 7), .faddr 1 (.t 2), none, 66048, 2, []⟩,
   ⟨(some 8), .load 1 false (.t 7), none, 66304, 3, []⟩,
   ⟨(some 9), .call 121 [(.t 6), (.t 8)] false, none, 66560, 4, [(.t 2)]⟩,
   ⟨(some 10), .load 2 true (.t 2), none, 66816, 5, []⟩,
   ⟨(some 11), .mv (.t 1), none, 67072, 6, []⟩,
   ⟨(some 12), .call 149 [(.t 10), (.t 11)] false, none, 67328, 7, []⟩,
   ⟨(some 13), .call 89 [(.t 9), (.t 12)] false, none, 67584, 8, []⟩,
   ⟨(some 4), .mv (.t 13), none, 67840, 9, []⟩])
 (.ret))⟩
/-- loop.example/g00849/laws.toShard -/
def F118 : F := ⟨1, 11, [.cell 2 2 true],
 .seq (.reg [⟨(some 1), .box (.t 0), none, 0, 0, []⟩,
   ⟨(some 2), .alloc [(.int .i64 0), (.str ByteArray.empty)], none, 256, 1, []⟩])
 (.seq (.reg [⟨(some 3), .alloc [(.int .i64 0), (.str ByteArray.empty)], none, 65536, 0, []⟩])
 (.seq (.reg [⟨(some 4), .faddr 0 (.t 1), none, 131072, 0, []⟩,
   ⟨(some 5), .load 1 false (.t 4), none, 131328, 1, []⟩,
   ⟨(some 6), .faddr 0 (.t 3), none, 131584, 2, []⟩,
   ⟨none, .store 1 (.t 6) (.t 5), none, 131840, 3, []⟩])
 (.seq (.reg [⟨(some 7), .faddr 1 (.t 1), none, 196608, 0, []⟩,
   ⟨(some 8), .load 1 false (.t 7), none, 196864, 1, []⟩,
   ⟨(some 9), .faddr 1 (.t 3), none, 197120, 2, []⟩,
   ⟨none, .store 1 (.t 9) (.t 8), none, 197376, 3, []⟩])
 (.seq (.reg [⟨(some 10), .load 2 true (.t 3), none, 262144, 0, []⟩,
   ⟨none, .store 2 (.t 2) (.t 10), none, 262400, 1, []⟩])
 (.ret)))))⟩
/-- loop.example/g00849/laws.eqShard -/
def F119 : F := ⟨2, 15, [.t 4],
 .seq (.reg [⟨(some 2), .box (.t 0), none, 0, 0, []⟩,
   ⟨(some 3), .box (.t 1), none, 256, 1, []⟩,
   ⟨(some 4), .mv (.k (.bool false)), none, 512, 2, []⟩])
 (.seq (.seq (.reg [⟨(some 5), .faddr 0 (.t 2), none, 65536, 0, []⟩,
   ⟨(some 6), .load 1 false (.t 5), none, 65792, 1, []⟩,
   ⟨(some 7), .faddr 0 (.t 3), none, 66048, 2, []⟩,
   ⟨(some 8), .load 1 false (.t 7), none, 66304, 3, []⟩,
   ⟨(some 9), .bin .neq (.t 6) (.t 8), none, 66560, 4, []⟩])
 (.cond (.t 9)
  (.seq (.reg [⟨(some 4), .mv (.k (.bool false)), none, 131072, 0, []⟩])
  (.ret))
  (.skip)))
 (.seq (.seq (.reg [⟨(some 10), .faddr 1 (.t 2), none, 196608, 0, []⟩,
   ⟨(some 11), .load 1 false (.t 10), none, 196864, 1, []⟩,
   ⟨(some 12), .faddr 1 (.t 3), none, 197120, 2, []⟩,
   ⟨(some 13), .load 1 false (.t 12), none, 197376, 3, []⟩,
   ⟨(some 14), .bin .neq (.t 11) (.t 13), none, 197632, 4, []⟩])
 (.cond (.t 14)
  (.seq (.reg [⟨(some 4), .mv (.k (.bool false)), none, 262144, 0, []⟩])
  (.ret))
  (.skip)))
 (.seq (.reg [⟨(some 4), .mv (.k (.bool true)), none, 327680, 0, []⟩])
 (.ret))))⟩
/-- loop.example/g00849/spec.l04Body -/
def F120 : F := ⟨3, 28, [.t 6],
 .seq (.reg [⟨(some 3), .box (.t 0), none, 0, 0, []⟩,
   ⟨(some 6), .mv (.k (.str ByteArray.empty)), none, 256, 1, []⟩])
 (.seq (.reg [⟨(some 10), .load 2 true (.t 3), none, 65536, 0, []⟩,
   ⟨(some 11), .mv (.t 2), none, 65792, 1, []⟩,
   ⟨(some 12), .call 149 [(.t 10), (.t 11)] false, none, 66048, 2, []⟩,
   ⟨(some 7), .mv (.t 12), none, 66304, 3, []⟩])
 (.seq (.reg [⟨(some 8), .mv (.k (.str ByteArray.empty)), none, 131072, 0, []⟩])
 (.seq (.seq (.reg [⟨(some 9), .mv (.k (.int .i64 0)), none, 196608, 0, []⟩])
 (.block 0 (.loop [1, 7, 8, 9] [0, 1, 2, 3, 4, 5, 66048, 66049, 66050, 66051]
  (.seq (.seq (.reg [⟨(some 13), .mv (.t 9), none, 262144, 0, []⟩,
    ⟨(some 14), .mv (.t 7), none, 262400, 1, []⟩,
    ⟨(some 15), .len false (.t 14), none, 262656, 2, []⟩,
    ⟨(some 16), .bin .lss (.t 13) (.t 15), none, 262912, 3, []⟩])
  (.cond (.t 16)
   (.skip)
   (.exit 0)))
  (.seq (.block 1 (.reg [⟨(some 19), .mv (.t 8), none, 393216, 0, []⟩,
    ⟨(some 20), .mv (.t 7), none, 393472, 1, []⟩,
    ⟨(some 21), .mv (.t 9), none, 393728, 2, []⟩,
    ⟨(some 22), .iaddr 1 (.t 20) (.t 21), none, 393984, 3, []⟩,
    ⟨(some 23), .load 1 false (.t 22), none, 394240, 4, []⟩,
    ⟨(some 24), .bin .add (.t 19) (.t 23), none, 394496, 5, []⟩,
    ⟨(some 8), .mv (.t 24), none, 394752, 6, []⟩]))
  (.reg [⟨(some 17), .mv (.t 9), none, 327680, 0, []⟩,
    ⟨(some 18), .bin .add (.t 17) (.k (.int .i64 1)), none, 327936, 1, []⟩,
    ⟨(some 9), .mv (.t 18), none, 328192, 2, []⟩]))))))
 (.seq (.reg [⟨(some 25), .mv (.t 8), none, 458752, 0, []⟩,
   ⟨(some 26), .mv (.t 1), none, 459008, 1, []⟩,
   ⟨(some 27), .scut (.t 25) none (some (.t 26)), none, 459264, 2, []⟩,
   ⟨(some 6), .mv (.t 27), none, 459520, 3, []⟩])
 (.ret)))))⟩
/-- loop.example/g00849/spec.l03Code -/
def F121 : F := ⟨2, 40, [.cell 4 3 true],
 .seq (.reg [⟨(some 4), .alloc [(.int .i64 0), (.int .i64 0), (.nil true 1)], none, 0, 0, []⟩])
 (.seq (.reg [⟨(some 8), .mv (.t 0), none, 65536, 0, []⟩,
   ⟨(some 9), .call 150 [(.t 8)] false, none, 65792, 1, []⟩,
   ⟨(some 5), .alloc [(.int .i64 0), (.int .i64 0), (.nil true 1)], none, 66048, 2, []⟩,
   ⟨none, .store 3 (.t 5) (.t 9), none, 66304, 3, []⟩])
 (.seq (.reg [⟨(some 10), .mv (.t 0), none, 131072, 0, []⟩,
   ⟨(some 11), .mv (.t 1), none, 131328, 1, []⟩,
   ⟨(some 12), .bin .add (.t 10) (.t 11), none, 131584, 2, []⟩,
   ⟨(some 13), .faddr 0 (.t 5), none, 131840, 3, []⟩,
   ⟨none, .store 1 (.t 13) (.t 12), none, 132096, 4, []⟩])
 (.seq (.seq (.reg [⟨(some 6), .mv (.k (.int .i64 0)), none, 196608, 0, []⟩])
 (.block 0 (.loop [0, 1, 4, 5, 6] [0, 3, 65792, 65793, 65794, 65795, 66048, 66051, 66305, 66306, 66307, 132097, 655617, 655618, 655619]
  (.seq (.seq (.reg [⟨(some 14), .mv (.t 6), none, 262144, 0, []⟩,
    ⟨(some 15), .mv (.t 1), none, 262400, 1, []⟩,
    ⟨(some 16), .bin .lss (.t 14) (.t 15), none, 262656, 2, []⟩])
  (.cond (.t 16)
   (.skip)
   (.exit 0)))
  (.seq (.block 1 (.seq (.reg [⟨(some 7), .mv (.k (.int .i64 0)), none, 393216, 0, []⟩])
  (.block 2 (.loop [0, 1, 4, 5, 6, 7] [0, 3, 65792, 65793, 65794, 65795, 66048, 66051, 66305, 66306, 66307, 132097, 655617, 655618, 655619]
   (.seq (.seq (.reg [⟨(some 19), .mv (.t 7), none, 458752, 0, []⟩,
     ⟨(some 20), .mv (.t 0), none, 459008, 1, []⟩,
     ⟨(some 21), .bin .lss (.t 19) (.t 20), none, 459264, 2, []⟩])
   (.cond (.t 21)
    (.skip)
    (.exit 2)))
   (.seq (.block 3 (.reg [⟨(some 24), .faddr 2 (.t 5), none, 589824, 0, []⟩,
     ⟨(some 25), .load 1 false (.t 24), none, 590080, 1, []⟩,
     ⟨(some 26), .mv (.t 0), none, 590336, 2, []⟩,
     ⟨(some 27), .mv (.t 6), none, 590592, 3, []⟩,
     ⟨(some 28), .bin .add (.t 26) (.t 27), none, 590848, 4, []⟩,
     ⟨(some 29), .mv (.t 0), none, 591104, 5, []⟩,
     ⟨(some 30), .mv (.t 6), none, 591360, 6, []⟩,
     ⟨(some 31), .bin .add (.t 29) (.t 30), none, 591616, 7, []⟩,
     ⟨(some 32), .mv (.t 7), none, 591872, 8, []⟩,
     ⟨(some 33), .bin .xor (.t 31) (.t 32), none, 592128, 9, []⟩,
     ⟨(some 34), .call 152 [(.t 33)] true, none, 592384, 10, []⟩,
     ⟨(some 35), .call 151 [(.t 28), (.t 34)] true, none, 592640, 11, []⟩,
     ⟨(some 36), .bslice true 1 [(.int .i64 0)] 1 [(0, (.t 35))], none, 592896, 12, []⟩,
     ⟨(some 37), .app true 1 8 (.t 25) (.t 36), none, 593152, 13, []⟩,
     ⟨(some 38), .faddr 2 (.t 5), none, 593408, 14, []⟩,
     ⟨none, .store 1 (.t 38) (.t 37), none, 593664, 15, []⟩]))
   (.reg [⟨(some 22), .mv (.t 7), none, 524288, 0, []⟩,
     ⟨(some 23), .bin .add (.t 22) (.k (.int .i64 1)), none, 524544, 1, []⟩,
     ⟨(some 7), .mv (.t 23), none, 524800, 2, []⟩])))))))
  (.reg [⟨(some 17), .mv (.t 6), none, 327680, 0, []⟩,
    ⟨(some 18), .bin .add (.t 17) (.k (.int .i64 1)), none, 327936, 1, []⟩,
    ⟨(some 6), .mv (.t 18), none, 328192, 2, []⟩]))))))
 (.seq (.reg [⟨(some 39), .load 3 true (.t 5), none, 655360, 0, []⟩,
   ⟨none, .store 3 (.t 4) (.t 39), none, 655616, 1, []⟩])
 (.ret)))))⟩
/-- loop.example/g00849/spec.l04Data -/
def F122 : F := ⟨2, 41, [.t 4],
 .seq (.reg [⟨(some 2), .box (.t 0), none, 0, 0, []⟩,
   ⟨(some 4), .nil0 true 1, none, 256, 1, []⟩])
 (.seq (.reg [⟨(some 8), .load 2 true (.t 2), none, 65536, 0, []⟩,
   ⟨(some 9), .mv (.t 1), none, 65792, 1, []⟩,
   ⟨(some 10), .len true (.t 9), none, 66048, 2, []⟩,
   ⟨(some 11), .call 148 [(.t 8), (.t 10)] true, none, 66304, 3, []⟩,
   ⟨(some 5), .mv (.t 11), none, 66560, 4, []⟩])
 (.seq (.block 0 (.loop [1, 2, 5] [0, 1, 2, 3, 4, 5, 256, 262144, 526848, 527104]
  (.seq (.seq (.reg [⟨(some 12), .mv (.t 1), none, 131072, 0, []⟩,
    ⟨(some 13), .len true (.t 12), none, 131328, 1, []⟩,
    ⟨(some 14), .mv (.t 5), none, 131584, 2, []⟩,
    ⟨(some 15), .faddr 0 (.t 2), none, 131840, 3, []⟩,
    ⟨(some 16), .load 1 false (.t 15), none, 132096, 4, []⟩,
    ⟨(some 17), .bin .mul (.t 14) (.t 16), none, 132352, 5, []⟩,
    ⟨(some 18), .bin .lss (.t 13) (.t 17), none, 132608, 6, []⟩])
  (.cond (.t 18)
   (.skip)
   (.exit 0)))
  (.block 1 (.reg [⟨(some 19), .mv (.t 1), none, 196608, 0, []⟩,
    ⟨(some 20), .bin .add (.t 19) (.k (.str ⟨#[0]⟩)), none, 196864, 1, []⟩,
    ⟨(some 1), .mv (.t 20), none, 197120, 2, []⟩])))))
 (.seq (.reg [⟨(some 21), .bslice true 1 [(.str ByteArray.empty)] 0 [], none, 262144, 0, []⟩,
   ⟨(some 6), .mv (.t 21), none, 262400, 1, []⟩])
 (.seq (.seq (.reg [⟨(some 7), .mv (.k (.int .i64 0)), none, 327680, 0, []⟩])
 (.block 2 (.loop [1, 2, 5, 6, 7] [0, 1, 2, 3, 4, 5, 256, 262144]
  (.seq (.seq (.reg [⟨(some 22), .mv (.t 7), none, 393216, 0, []⟩,
    ⟨(some 23), .faddr 0 (.t 2), none, 393472, 1, []⟩,
    ⟨(some 24), .load 1 false (.t 23), none, 393728, 2, []⟩,
    ⟨(some 25), .bin .lss (.t 22) (.t 24), none, 393984, 3, []⟩])
  (.cond (.t 25)
   (.skip)
   (.exit 2)))
  (.seq (.block 3 (.reg [⟨(some 28), .mv (.t 6), none, 524288, 0, []⟩,
    ⟨(some 29), .mv (.t 1), none, 524544, 1, []⟩,
    ⟨(some 30), .mv (.t 7), none, 524800, 2, []⟩,
    ⟨(some 31), .mv (.t 5), none, 525056, 3, []⟩,
    ⟨(some 32), .bin .mul (.t 30) (.t 31), none, 525312, 4, []⟩,
    ⟨(some 33), .mv (.t 7), none, 525568, 5, []⟩,
    ⟨(some 34), .bin .add (.t 33) (.k (.int .i64 1)), none, 525824, 6, []⟩,
    ⟨(some 35), .mv (.t 5), none, 526080, 7, []⟩,
    ⟨(some 36), .bin .mul (.t 34) (.t 35), none, 526336, 8, []⟩,
    ⟨(some 37), .scut (.t 29) (some (.t 32)) (some (.t 36)), none, 526592, 9, []⟩,
    ⟨(some 38), .bslice true 1 [(.str ByteArray.empty)] 1 [(0, (.t 37))], none, 526848, 10, []⟩,
    ⟨(some 39), .app true 1 16 (.t 28) (.t 38), none, 527104, 11, []⟩,
    ⟨(some 6), .mv (.t 39), none, 527360, 12, []⟩]))
  (.reg [⟨(some 26), .mv (.t 7), none, 458752, 0, []⟩,
    ⟨(some 27), .bin .add (.t 26) (.k (.int .i64 1)), none, 459008, 1, []⟩,
    ⟨(some 7), .mv (.t 27), none, 459264, 2, []⟩]))))))
 (.seq (.reg [⟨(some 40), .mv (.t 6), none, 589824, 0, []⟩,
   ⟨(some 4), .mv (.t 40), none, 590080, 1, []⟩])
 (.ret))))))⟩
/-- (*loop.example/g00849/spec.l00Src).pick -/
def F124 : F := ⟨2, 20, [.t 4],
 .seq (.reg [⟨(some 4), .mv (.k (.int .i64 0)), none, 0, 0, []⟩])
 (.seq (.seq (.reg [⟨(some 6), .mv (.t 1), none, 65536, 0, []⟩,
   ⟨(some 7), .bin .leq (.t 6) (.k (.int .i64 1)), none, 65792, 1, []⟩])
 (.cond (.t 7)
  (.seq (.reg [⟨(some 4), .mv (.k (.int .i64 0)), none, 131072, 0, []⟩])
  (.ret))
  (.skip)))
 (.seq (.reg [⟨(some 8), .mv (.t 0), none, 196608, 0, []⟩,
   ⟨(some 9), .call 145 [(.t 8)] true, none, 196864, 1, []⟩,
   ⟨(some 5), .mv (.t 9), none, 197120, 2, []⟩])
 (.seq (.seq (.reg [⟨(some 10), .mv (.t 1), none, 262144, 0, []⟩,
   ⟨(some 11), .bin .gtr (.t 10) (.k (.int .i64 200)), none, 262400, 1, []⟩])
 (.cond (.t 11)
  (.reg [⟨(some 12), .mv (.t 5), none, 327680, 0, []⟩,
    ⟨(some 13), .bin .mul (.t 12) (.k (.int .i64 256)), none, 327936, 1, []⟩,
    ⟨(some 14), .mv (.t 0), none, 328192, 2, []⟩,
    ⟨(some 15), .call 145 [(.t 14)] true, none, 328448, 3, []⟩,
    ⟨(some 16), .bin .add (.t 13) (.t 15), none, 328704, 4, []⟩,
    ⟨(some 5), .mv (.t 16), none, 328960, 5, []⟩])
  (.skip)))
 (.seq (.reg [⟨(some 17), .mv (.t 5), none, 393216, 0, []⟩,
   ⟨(some 18), .mv (.t 1), none, 393472, 1, []⟩,
   ⟨(some 19), .bin .rem (.t 17) (.t 18), none, 393728, 2, []⟩,
   ⟨(some 4), .mv (.t 19), none, 393984, 3, []⟩])
 (.ret)))))⟩
/-- slices.IndexFunc[[]string,string] -/
def F127 : F := ⟨2, 19, [.t 4],
 .seq (.reg [⟨(some 4), .mv (.k (.int .i64 0)), none, 0, 0, []⟩])
 (.seq (.seq (.reg [⟨(some 6), .mv (.t 0), none, 65536, 0, []⟩,
   ⟨(some 7), .len false (.t 6), none, 65792, 1, []⟩,
   ⟨(some 8), .mv (.k (.int .i64 0)), none, 66048, 2, []⟩])
 (.block 0 (.loop [0, 1, 7, 8] []
  (.seq (.reg [⟨(some 9), .bin .lss (.t 8) (.t 7), none, 131072, 0, []⟩])
  (.seq (.cond (.t 9)
   (.skip)
   (.exit 0))
  (.seq (.block 1 (.seq (.reg [⟨(some 10), .mv (.t 8), none, 196608, 0, []⟩,
    ⟨(some 5), .mv (.t 10), none, 196864, 1, []⟩])
  (.seq (.reg [⟨(some 11), .mv (.t 1), none, 262144, 0, []⟩,
    ⟨(some 12), .mv (.t 0), none, 262400, 1, []⟩,
    ⟨(some 13), .mv (.t 5), none, 262656, 2, []⟩,
    ⟨(some 14), .iaddr 1 (.t 12) (.t 13), none, 262912, 3, []⟩,
    ⟨(some 15), .load 1 false (.t 14), none, 263168, 4, []⟩,
    ⟨(some 16), .callv (.t 11) [(.t 15)] true, none, 263424, 5, []⟩])
  (.cond (.t 16)
   (.seq (.reg [⟨(some 17), .mv (.t 5), none, 327680, 0, []⟩,
     ⟨(some 4), .mv (.t 17), none, 327936, 1, []⟩])
   (.ret))
   (.skip)))))
  (.reg [⟨(some 18), .bin .add (.t 8) (.k (.int .i64 1)), none, 393216, 0, []⟩,
    ⟨(some 8), .mv (.t 18), none, 393472, 1, []⟩])))))))
 (.seq (.reg [⟨(some 4), .mv (.k (.int .i64 (-1))), none, 458752, 0, []⟩])
 (.ret)))⟩
/-- loop.example/g00849/spec.l02Byte -/
def F128 : F := ⟨1, 5, [.t 2],
 .seq (.reg [⟨(some 2), .mv (.k (.bool false)), none, 0, 0, []⟩])
 (.seq (.reg [⟨(some 3), .mv (.t 0), none, 65536, 0, []⟩,
   ⟨(some 4), .call 70 [(.t 3), (.k (.int .i64 0)), (.k (.int .i64 255))] true, none, 65792, 1, []⟩,
   ⟨(some 2), .mv (.t 4), none, 66048, 2, []⟩])
 (.ret))⟩
/-- loop.example/g00849/spec.l02Scale -/
def F129 : F := ⟨2, 26, [.t 4],
 .seq (.reg [⟨(some 4), .mv (.k (.str ByteArray.empty)), none, 0, 0, []⟩])
 (.seq (.reg [⟨(some 7), .bslice true 1 [(.int .u8 0)] 0 [], none, 65536, 0, []⟩,
   ⟨(some 5), .mv (.t 7), none, 65792, 1, []⟩])
 (.seq (.seq (.reg [⟨(some 6), .mv (.k (.int .i64 0)), none, 131072, 0, []⟩])
 (.block 0 (.loop [0, 1, 5, 6] [65536]
  (.seq (.seq (.reg [⟨(some 8), .mv (.t 6), none, 196608, 0, []⟩,
    ⟨(some 9), .mv (.t 1), none, 196864, 1, []⟩,
    ⟨(some 10), .len true (.t 9), none, 197120, 2, []⟩,
    ⟨(some 11), .bin .lss (.t 8) (.t 10), none, 197376, 3, []⟩])
  (.cond (.t 11)
   (.skip)
   (.exit 0)))
  (.seq (.block 1 (.reg [⟨(some 14), .mv (.t 5), none, 327680, 0, []⟩,
    ⟨(some 15), .mv (.t 0), none, 327936, 1, []⟩,
    ⟨(some 16), .mv (.t 1), none, 328192, 2, []⟩,
    ⟨(some 17), .mv (.t 6), none, 328448, 3, []⟩,
    ⟨(some 18), .idx (.t 16) (.t 17), none, 328704, 4, []⟩,
    ⟨(some 19), .conv .i64 (.t 18), none, 328960, 5, []⟩,
    ⟨(some 20), .call 151 [(.t 15), (.t 19)] true, none, 329216, 6, []⟩,
    ⟨(some 21), .conv .u8 (.t 20), none, 329472, 7, []⟩,
    ⟨(some 22), .bslice true 1 [(.int .u8 0)] 1 [(0, (.t 21))], none, 329728, 8, []⟩,
    ⟨(some 23), .app true 1 1 (.t 14) (.t 22), none, 329984, 9, []⟩,
    ⟨(some 5), .mv (.t 23), none, 330240, 10, []⟩]))
  (.reg [⟨(some 12), .mv (.t 6), none, 262144, 0, []⟩,
    ⟨(some 13), .bin .add (.t 12) (.k (.int .i64 1)), none, 262400, 1, []⟩,
    ⟨(some 6), .mv (.t 13), none, 262656, 2, []⟩]))))))
 (.seq (.reg [⟨(some 24), .mv (.t 5), none, 393216, 0, []⟩,
   ⟨(some 25), .b2s (.t 24), none, 393472, 1, []⟩,
   ⟨(some 4), .mv (.t 25), none, 393728, 2, []⟩])
 (.ret))))⟩
/-- loop.example/g00849/spec.l02Sum -/
def F130 : F := ⟨2, 26, [.t 4],
 .seq (.reg [⟨(some 4), .mv (.k (.str ByteArray.empty)), none, 0, 0, []⟩])
 (.seq (.reg [⟨(some 7), .bslice true 1 [(.int .u8 0)] 0 [], none, 65536, 0, []⟩,
   ⟨(some 5), .mv (.t 7), none, 65792, 1, []⟩])
 (.seq (.seq (.reg [⟨(some 6), .mv (.k (.int .i64 0)), none, 131072, 0, []⟩])
 (.block 0 (.loop [0, 1, 5, 6] [65536]
  (.seq (.seq (.reg [⟨(some 8), .mv (.t 6), none, 196608, 0, []⟩,
    ⟨(some 9), .mv (.t 0), none, 196864, 1, []⟩,
    ⟨(some 10), .len true (.t 9), none, 197120, 2, []⟩,
    ⟨(some 11), .bin .lss (.t 8) (.t 10), none, 197376, 3, []⟩])
  (.cond (.t 11)
   (.skip)
   (.exit 0)))
  (.seq (.block 1 (.reg [⟨(some 14), .mv (.t 5), none, 327680, 0, []⟩,
    ⟨(some 15), .mv (.t 0), none, 327936, 1, []⟩,
    ⟨(some 16), .mv (.t 6), none, 328192, 2, []⟩,
    ⟨(some 17), .idx (.t 15) (.t 16), none, 328448, 3, []⟩,
    ⟨(some 18), .mv (.t 1), none, 328704, 4, []⟩,
    ⟨(some 19), .mv (.t 6), none, 328960, 5, []⟩,
    ⟨(some 20), .idx (.t 18) (.t 19), none, 329216, 6, []⟩,
    ⟨(some 21), .bin .xor (.t 17) (.t 20), none, 329472, 7, []⟩,
    ⟨(some 22), .bslice true 1 [(.int .u8 0)] 1 [(0, (.t 21))], none, 329728, 8, []⟩,
    ⟨(some 23), .app true 1 1 (.t 14) (.t 22), none, 329984, 9, []⟩,
    ⟨(some 5), .mv (.t 23), none, 330240, 10, []⟩]))
  (.reg [⟨(some 12), .mv (.t 6), none, 262144, 0, []⟩,
    ⟨(some 13), .bin .add (.t 12) (.k (.int .i64 1)), none, 262400, 1, []⟩,
    ⟨(some 6), .mv (.t 13), none, 262656, 2, []⟩]))))))
 (.seq (.reg [⟨(some 24), .mv (.t 5), none, 393216, 0, []⟩,
   ⟨(some 25), .b2s (.t 24), none, 393472, 1, []⟩,
   ⟨(some 4), .mv (.t 25), none, 393728, 2, []⟩])
 (.ret))))⟩
/-- slices.ContainsFunc[[]int64,int64] -/
def F131 : F := ⟨2, 9, [.t 4],
 .seq (.reg [⟨(some 4), .mv (.k (.bool false)), none, 0, 0, []⟩])
 (.seq (.reg [⟨(some 5), .mv (.t 0), none, 65536, 0, []⟩,
   ⟨(some 6), .mv (.t 1), none, 65792, 1, []⟩,
   ⟨(some 7), .call 157 [(.t 5), (.t 6)] true, none, 66048, 2, []⟩,
   ⟨(some 8), .bin .geq (.t 7) (.k (.int .i64 0)), none, 66304, 3, []⟩,
   ⟨(some 4), .mv (.t 8), none, 66560, 4, []⟩])
 (.ret))⟩
/-- loop.example/g00849/impl.MatrixOk$1 -/
def F132 : F := ⟨1, 6, [.t 2],
 .seq (.reg [⟨(some 2), .mv (.k (.bool false)), none, 0, 0, []⟩])
 (.seq (.reg [⟨(some 3), .mv (.t 0), none, 65536, 0, []⟩,
   ⟨(some 4), .call 133 [(.t 3)] true, none, 65792, 1, []⟩,
   ⟨(some 5), .not (.t 4), none, 66048, 2, []⟩,
   ⟨(some 2), .mv (.t 5), none, 66304, 3, []⟩])
 (.ret))⟩
/-- loop.example/g00849/impl.isElement -/
def F133 : F := ⟨1, 5, [.t 2],
 .seq (.reg [⟨(some 2), .mv (.k (.bool false)), none, 0, 0, []⟩])
 (.seq (.reg [⟨(some 3), .mv (.t 0), none, 65536, 0, []⟩,
   ⟨(some 4), .call 78 [(.t 3), (.k (.int .i64 0)), (.k (.int .i64 255))] true, none, 65792, 1, []⟩,
   ⟨(some 2), .mv (.t 4), none, 66048, 2, []⟩])
 (.ret))⟩
/-- (loop.example/g00849/impl.Matrix).row -/
def F134 : F := ⟨2, 17, [.t 4],
 .seq (.reg [⟨(some 2), .box (.t 0), none, 0, 0, []⟩,
   ⟨(some 4), .nil0 true 1, none, 256, 1, []⟩])
 (.seq (.reg [⟨(some 5), .faddr 2 (.t 2), none, 65536, 0, []⟩,
   ⟨(some 6), .load 1 false (.t 5), none, 65792, 1, []⟩,
   ⟨(some 7), .mv (.t 1), none, 66048, 2, []⟩,
   ⟨(some 8), .faddr 1 (.t 2), none, 66304, 3, []⟩,
   ⟨(some 9), .load 1 false (.t 8), none, 66560, 4, []⟩,
   ⟨(some 10), .bin .mul (.t 7) (.t 9), none, 66816, 5, []⟩,
   ⟨(some 11), .mv (.t 1), none, 67072, 6, []⟩,
   ⟨(some 12), .bin .add (.t 11) (.k (.int .i64 1)), none, 67328, 7, []⟩,
   ⟨(some 13), .faddr 1 (.t 2), none, 67584, 8, []⟩,
   ⟨(some 14), .load 1 false (.t 13), none, 67840, 9, []⟩,
   ⟨(some 15), .bin .mul (.t 12) (.t 14), none, 68096, 10, []⟩,
   ⟨(some 16), .cut 1 (.t 6) (some (.t 10)) (some (.t 15)), none, 68352, 11, []⟩,
   ⟨(some 4), .mv (.t 16), none, 68608, 12, []⟩])
 (.ret))⟩
/-- loop.example/g00849/impl.summed -/
def F135 : F := ⟨2, 28, [.t 4],
 .seq (.reg [⟨(some 4), .mv (.k (.str ByteArray.empty)), none, 0, 0, []⟩])
 (.seq (.reg [⟨(some 7), .mv (.t 0), none, 65536, 0, []⟩,
   ⟨(some 8), .len true (.t 7), none, 65792, 1, []⟩,
   ⟨(some 9), .mksl true 1 1 [(.int .u8 0)] (.t 8) (.t 8), none, 66048, 2, []⟩,
   ⟨(some 5), .mv (.t 9), none, 66304, 3, []⟩])
 (.seq (.seq (.reg [⟨(some 10), .mv (.t 5), none, 131072, 0, []⟩,
   ⟨(some 11), .len false (.t 10), none, 131328, 1, []⟩,
   ⟨(some 12), .mv (.k (.int .i64 0)), none, 131584, 2, []⟩])
 (.block 0 (.loop [0, 1, 5, 11, 12] [66048]
  (.seq (.reg [⟨(some 13), .bin .lss (.t 12) (.t 11), none, 196608, 0, []⟩])
  (.seq (.cond (.t 13)
   (.skip)
   (.exit 0))
  (.seq (.block 1 (.seq (.reg [⟨(some 14), .mv (.t 12), none, 262144, 0, []⟩,
    ⟨(some 6), .mv (.t 14), none, 262400, 1, []⟩])
  (.reg [⟨(some 15), .mv (.t 5), none, 327680, 0, []⟩,
    ⟨(some 16), .mv (.t 6), none, 327936, 1, []⟩,
    ⟨(some 17), .mv (.t 0), none, 328192, 2, []⟩,
    ⟨(some 18), .mv (.t 6), none, 328448, 3, []⟩,
    ⟨(some 19), .idx (.t 17) (.t 18), none, 328704, 4, []⟩,
    ⟨(some 20), .mv (.t 1), none, 328960, 5, []⟩,
    ⟨(some 21), .mv (.t 6), none, 329216, 6, []⟩,
    ⟨(some 22), .idx (.t 20) (.t 21), none, 329472, 7, []⟩,
    ⟨(some 23), .bin .xor (.t 19) (.t 22), none, 329728, 8, []⟩,
    ⟨(some 24), .iaddr 1 (.t 15) (.t 16), none, 329984, 9, []⟩,
    ⟨none, .store 1 (.t 24) (.t 23), none, 330240, 10, []⟩])))
  (.reg [⟨(some 25), .bin .add (.t 12) (.k (.int .i64 1)), none, 393216, 0, []⟩,
    ⟨(some 12), .mv (.t 25), none, 393472, 1, []⟩])))))))
 (.seq (.reg [⟨(some 26), .mv (.t 5), none, 458752, 0, []⟩,
   ⟨(some 27), .b2s (.t 26), none, 459008, 1, []⟩,
   ⟨(some 4), .mv (.t 27), none, 459264, 2, []⟩])
 (.ret))))⟩
/-- loop.example/g00849/impl.scaled -/
def F136 : F := ⟨2, 28, [.t 4],
 .seq (.reg [⟨(some 4), .mv (.k (.str ByteArray.empty)), none, 0, 0, []⟩])
 (.seq (.reg [⟨(some 7), .mv (.t 1), none, 65536, 0, []⟩,
   ⟨(some 8), .len true (.t 7), none, 65792, 1, []⟩,
   ⟨(some 9), .mksl true 1 1 [(.int .u8 0)] (.t 8) (.t 8), none, 66048, 2, []⟩,
   ⟨(some 5), .mv (.t 9), none, 66304, 3, []⟩])
 (.seq (.seq (.reg [⟨(some 10), .mv (.t 5), none, 131072, 0, []⟩,
   ⟨(some 11), .len false (.t 10), none, 131328, 1, []⟩,
   ⟨(some 12), .mv (.k (.int .i64 0)), none, 131584, 2, []⟩])
 (.block 0 (.loop [0, 1, 5, 11, 12] [66048]
  (.seq (.reg [⟨(some 13), .bin .lss (.t 12) (.t 11), none, 196608, 0, []⟩])
  (.seq (.cond (.t 13)
   (.skip)
   (.exit 0))
  (.seq (.block 1 (.seq (.reg [⟨(some 14), .mv (.t 12), none, 262144, 0, []⟩,
    ⟨(some 6), .mv (.t 14), none, 262400, 1, []⟩])
  (.reg [⟨(some 15), .mv (.t 5), none, 327680, 0, []⟩,
    ⟨(some 16), .mv (.t 6), none, 327936, 1, []⟩,
    ⟨(some 17), .mv (.t 0), none, 328192, 2, []⟩,
    ⟨(some 18), .mv (.t 1), none, 328448, 3, []⟩,
    ⟨(some 19), .mv (.t 6), none, 328704, 4, []⟩,
    ⟨(some 20), .idx (.t 18) (.t 19), none, 328960, 5, []⟩,
    ⟨(some 21), .conv .i64 (.t 20), none, 329216, 6, []⟩,
    ⟨(some 22), .call 158 [(.t 17), (.t 21)] true, none, 329472, 7, []⟩,
    ⟨(some 23), .conv .u8 (.t 22), none, 329728, 8, []⟩,
    ⟨(some 24), .iaddr 1 (.t 15) (.t 16), none, 329984, 9, []⟩,
    ⟨none, .store 1 (.t 24) (.t 23), none, 330240, 10, []⟩])))
  (.reg [⟨(some 25), .bin .add (.t 12) (.k (.int .i64 1)), none, 393216, 0, []⟩,
    ⟨(some 12), .mv (.t 25), none, 393472, 1, []⟩])))))))
 (.seq (.reg [⟨(some 26), .mv (.t 5), none, 458752, 0, []⟩,
   ⟨(some 27), .b2s (.t 26), none, 459008, 1, []⟩,
   ⟨(some 4), .mv (.t 27), none, 459264, 2, []⟩])
 (.ret))))⟩
/-- loop.example/g00849/impl.generator -/
def F140 : F := ⟨2, 40, [.cell 4 3 true],
 .seq (.reg [⟨(some 4), .alloc [(.int .i64 0), (.int .i64 0), (.nil true 1)], none, 0, 0, []⟩])
 (.seq (.reg [⟨(some 8), .mv (.t 0), none, 65536, 0, []⟩,
   ⟨(some 9), .call 161 [(.t 8)] false, none, 65792, 1, []⟩,
   ⟨(some 5), .alloc [(.int .i64 0), (.int .i64 0), (.nil true 1)], none, 66048, 2, []⟩,
   ⟨none, .store 3 (.t 5) (.t 9), none, 66304, 3, []⟩])
 (.seq (.reg [⟨(some 10), .mv (.t 0), none, 131072, 0, []⟩,
   ⟨(some 11), .mv (.t 1), none, 131328, 1, []⟩,
   ⟨(some 12), .bin .add (.t 10) (.t 11), none, 131584, 2, []⟩,
   ⟨(some 13), .faddr 0 (.t 5), none, 131840, 3, []⟩,
   ⟨none, .store 1 (.t 13) (.t 12), none, 132096, 4, []⟩])
 (.seq (.seq (.reg [⟨(some 14), .mv (.t 1), none, 196608, 0, []⟩,
   ⟨(some 15), .mv (.k (.int .i64 0)), none, 196864, 1, []⟩])
 (.block 0 (.loop [0, 4, 5, 14, 15] [0, 3, 65792, 65793, 65794, 65795, 66048, 66051, 66305, 66306, 66307, 132097, 786689, 786690, 786691]
  (.seq (.reg [⟨(some 16), .bin .lss (.t 15) (.t 14), none, 262144, 0, []⟩])
  (.seq (.cond (.t 16)
   (.skip)
   (.exit 0))
  (.seq (.block 1 (.seq (.reg [⟨(some 17), .mv (.t 15), none, 327680, 0, []⟩,
    ⟨(some 6), .mv (.t 17), none, 327936, 1, []⟩])
  (.seq (.reg [⟨(some 18), .mv (.t 0), none, 393216, 0, []⟩,
    ⟨(some 19), .mv (.k (.int .i64 0)), none, 393472, 1, []⟩])
  (.block 2 (.loop [0, 4, 5, 6, 14, 15, 18, 19] [0, 3, 65792, 65793, 65794, 65795, 66048, 66051, 66305, 66306, 66307, 132097, 786689, 786690, 786691]
   (.seq (.reg [⟨(some 20), .bin .lss (.t 19) (.t 18), none, 458752, 0, []⟩])
   (.seq (.cond (.t 20)
    (.skip)
    (.exit 2))
   (.seq (.block 3 (.seq (.reg [⟨(some 21), .mv (.t 19), none, 524288, 0, []⟩,
     ⟨(some 7), .mv (.t 21), none, 524544, 1, []⟩])
   (.reg [⟨(some 22), .faddr 2 (.t 5), none, 589824, 0, []⟩,
     ⟨(some 23), .load 1 false (.t 22), none, 590080, 1, []⟩,
     ⟨(some 24), .mv (.t 0), none, 590336, 2, []⟩,
     ⟨(some 25), .mv (.t 6), none, 590592, 3, []⟩,
     ⟨(some 26), .bin .add (.t 24) (.t 25), none, 590848, 4, []⟩,
     ⟨(some 27), .mv (.t 0), none, 591104, 5, []⟩,
     ⟨(some 28), .mv (.t 6), none, 591360, 6, []⟩,
     ⟨(some 29), .bin .add (.t 27) (.t 28), none, 591616, 7, []⟩,
     ⟨(some 30), .mv (.t 7), none, 591872, 8, []⟩,
     ⟨(some 31), .bin .xor (.t 29) (.t 30), none, 592128, 9, []⟩,
     ⟨(some 32), .call 163 [(.t 31)] true, none, 592384, 10, []⟩,
     ⟨(some 33), .call 158 [(.t 26), (.t 32)] true, none, 592640, 11, []⟩,
     ⟨(some 34), .bslice true 1 [(.int .i64 0)] 1 [(0, (.t 33))], none, 592896, 12, []⟩,
     ⟨(some 35), .app true 1 8 (.t 23) (.t 34), none, 593152, 13, []⟩,
     ⟨(some 36), .faddr 2 (.t 5), none, 593408, 14, []⟩,
     ⟨none, .store 1 (.t 36) (.t 35), none, 593664, 15, []⟩])))
   (.reg [⟨(some 37), .bin .add (.t 19) (.k (.int .i64 1)), none, 655360, 0, []⟩,
     ⟨(some 19), .mv (.t 37), none, 655616, 1, []⟩])))))))))
  (.reg [⟨(some 38), .bin .add (.t 15) (.k (.int .i64 1)), none, 720896, 0, []⟩,
    ⟨(some 15), .mv (.t 38), none, 721152, 1, []⟩])))))))
 (.seq (.reg [⟨(some 39), .load 3 true (.t 5), none, 786432, 0, []⟩,
   ⟨none, .store 3 (.t 4) (.t 39), none, 786688, 1, []⟩])
 (.ret)))))⟩
/-- (*loop.example/g00849/spec.l00Src).next -/
def F145 : F := ⟨1, 62, [.t 2],
 .seq (.reg [⟨(some 2), .mv (.k (.int .i64 0)), none, 0, 0, []⟩])
 (.seq (.reg [⟨(some 3), .mv (.k (.int .i64 0)), none, 65536, 0, []⟩])
 (.seq (.seq (.reg [⟨(some 4), .mv (.t 0), none, 131072, 0, []⟩,
   ⟨(some 5), .nilck (.t 4), none, 131328, 1, []⟩,
   ⟨(some 6), .faddr 1 (.t 5), none, 131584, 2, []⟩,
   ⟨(some 7), .load 1 false (.t 6), none, 131840, 3, []⟩,
   ⟨(some 8), .mv (.t 0), none, 132096, 4, []⟩,
   ⟨(some 9), .nilck (.t 8), none, 132352, 5, []⟩,
   ⟨(some 10), .faddr 0 (.t 9), none, 132608, 6, []⟩,
   ⟨(some 11), .load 1 false (.t 10), none, 132864, 7, []⟩,
   ⟨(some 12), .len false (.t 11), none, 133120, 8, []⟩,
   ⟨(some 13), .bin .lss (.t 7) (.t 12), none, 133376, 9, []⟩])
 (.cond (.t 13)
  (.reg [⟨(some 14), .mv (.t 0), none, 196608, 0, []⟩,
    ⟨(some 15), .nilck (.t 14), none, 196864, 1, []⟩,
    ⟨(some 16), .faddr 0 (.t 15), none, 197120, 2, []⟩,
    ⟨(some 17), .load 1 false (.t 16), none, 197376, 3, []⟩,
    ⟨(some 18), .mv (.t 0), none, 197632, 4, []⟩,
    ⟨(some 19), .nilck (.t 18), none, 197888, 5, []⟩,
    ⟨(some 20), .faddr 1 (.t 19), none, 198144, 6, []⟩,
    ⟨(some 21), .load 1 false (.t 20), none, 198400, 7, []⟩,
    ⟨(some 22), .iaddr 1 (.t 17) (.t 21), none, 198656, 8, []⟩,
    ⟨(some 23), .load 1 false (.t 22), none, 198912, 9, []⟩,
    ⟨(some 24), .conv .i64 (.t 23), none, 199168, 10, []⟩,
    ⟨(some 3), .mv (.t 24), none, 199424, 11, []⟩])
  (.skip)))
 (.seq (.reg [⟨(some 25), .mv (.t 0), none, 262144, 0, []⟩,
   ⟨(some 26), .nilck (.t 25), none, 262400, 1, []⟩,
   ⟨(some 27), .faddr 1 (.t 26), none, 262656, 2, []⟩,
   ⟨(some 28), .load 1 false (.t 27), none, 262912, 3, []⟩,
   ⟨(some 29), .bin .add (.t 28) (.k (.int .i64 1)), none, 263168, 4, []⟩,
   ⟨(some 30), .nilck (.t 25), none, 263424, 5, []⟩,
   ⟨(some 31), .faddr 1 (.t 30), none, 263680, 6, []⟩,
   ⟨none, .store 1 (.t 31) (.t 29), none, 263936, 7, []⟩])
 (.seq (.reg [⟨(some 32), .mv (.t 0), none, 327680, 0, []⟩,
   ⟨(some 33), .mv (.t 0), none, 327936, 1, []⟩,
   ⟨(some 34), .nilck (.t 33), none, 328192, 2, []⟩,
   ⟨(some 35), .faddr 2 (.t 34), none, 328448, 3, []⟩,
   ⟨(some 36), .load 1 false (.t 35), none, 328704, 4, []⟩,
   ⟨(some 37), .bin .mul (.t 36) (.k (.int .u64 6364136223846793005)), none, 328960, 5, []⟩,
   ⟨(some 38), .mv (.t 3), none, 329216, 6, []⟩,
   ⟨(some 39), .conv .u64 (.t 38), none, 329472, 7, []⟩,
   ⟨(some 40), .bin .add (.t 37) (.t 39), none, 329728, 8, []⟩,
   ⟨(some 41), .bin .add (.t 40) (.k (.int .u64 1442695040888963407)), none, 329984, 9, []⟩,
   ⟨(some 42), .nilck (.t 32), none, 330240, 10, []⟩,
   ⟨(some 43), .faddr 2 (.t 42), none, 330496, 11, []⟩,
   ⟨none, .store 1 (.t 43) (.t 41), none, 330752, 12, []⟩])
 (.seq (.seq (.reg [⟨(some 44), .mv (.t 0), none, 393216, 0, []⟩,
   ⟨(some 45), .nilck (.t 44), none, 393472, 1, []⟩,
   ⟨(some 46), .faddr 1 (.t 45), none, 393728, 2, []⟩,
   ⟨(some 47), .load 1 false (.t 46), none, 393984, 3, []⟩,
   ⟨(some 48), .mv (.t 0), none, 394240, 4, []⟩,
   ⟨(some 49), .nilck (.t 48), none, 394496, 5, []⟩,
   ⟨(some 50), .faddr 0 (.t 49), none, 394752, 6, []⟩,
   ⟨(some 51), .load 1 false (.t 50), none, 395008, 7, []⟩,
   ⟨(some 52), .len false (.t 51), none, 395264, 8, []⟩,
   ⟨(some 53), .bin .leq (.t 47) (.t 52), none, 395520, 9, []⟩])
 (.cond (.t 53)
  (.seq (.reg [⟨(some 54), .mv (.t 3), none, 458752, 0, []⟩,
    ⟨(some 2), .mv (.t 54), none, 459008, 1, []⟩])
  (.ret))
  (.skip)))
 (.seq (.reg [⟨(some 55), .mv (.t 0), none, 524288, 0, []⟩,
   ⟨(some 56), .nilck (.t 55), none, 524544, 1, []⟩,
   ⟨(some 57), .faddr 2 (.t 56), none, 524800, 2, []⟩,
   ⟨(some 58), .load 1 false (.t 57), none, 525056, 3, []⟩,
   ⟨(some 59), .bin .shr (.t 58) (.k (.int .u64 40)), none, 525312, 4, []⟩,
   ⟨(some 60), .bin .and (.t 59) (.k (.int .u64 255)), none, 525568, 5, []⟩,
   ⟨(some 61), .conv .i64 (.t 60), none, 525824, 6, []⟩,
   ⟨(some 2), .mv (.t 61), none, 526080, 7, []⟩])
 (.ret)))))))⟩
/-- loop.example/g00849/spec.l04Size -/
def F148 : F := ⟨2, 13, [.t 4],
 .seq (.reg [⟨(some 2), .box (.t 0), none, 0, 0, []⟩,
   ⟨(some 4), .mv (.k (.int .i64 0)), none, 256, 1, []⟩])
 (.seq (.reg [⟨(some 5), .mv (.t 1), none, 65536, 0, []⟩,
   ⟨(some 6), .faddr 0 (.t 2), none, 65792, 1, []⟩,
   ⟨(some 7), .load 1 false (.t 6), none, 66048, 2, []⟩,
   ⟨(some 8), .bin .add (.t 5) (.t 7), none, 66304, 3, []⟩,
   ⟨(some 9), .bin .sub (.t 8) (.k (.int .i64 1)), none, 66560, 4, []⟩,
   ⟨(some 10), .faddr 0 (.t 2), none, 66816, 5, []⟩,
   ⟨(some 11), .load 1 false (.t 10), none, 67072, 6, []⟩,
   ⟨(some 12), .bin .quo (.t 9) (.t 11), none, 67328, 7, []⟩,
   ⟨(some 4), .mv (.t 12), none, 67584, 8, []⟩])
 (.ret))⟩
/-- loop.example/g00849/spec.l04Back -/
def F149 : F := ⟨2, 48, [.t 4],
 .seq (.reg [⟨(some 2), .box (.t 0), none, 0, 0, []⟩,
   ⟨(some 4), .nil0 true 1, none, 256, 1, []⟩])
 (.seq (.reg [⟨(some 10), .bslice true 1 [(.int .i64 0)] 0 [], none, 65536, 0, []⟩,
   ⟨(some 5), .mv (.t 10), none, 65792, 1, []⟩])
 (.seq (.reg [⟨(some 11), .bslice true 1 [(.str ByteArray.empty)] 0 [], none, 131072, 0, []⟩,
   ⟨(some 6), .mv (.t 11), none, 131328, 1, []⟩])
 (.seq (.seq (.reg [⟨(some 7), .mv (.k (.int .i64 0)), none, 196608, 0, []⟩])
 (.block 0 (.loop [1, 2, 5, 6, 7] [0, 1, 2, 3, 4, 5, 256, 65536, 131072, 525312, 525313, 525314, 525315, 525824, 525825, 525826, 525827, 526080, 526081, 526082, 526083, 527104, 527107, 527361, 527362, 527363, 590336, 590337, 590338, 590339]
  (.seq (.seq (.reg [⟨(some 12), .mv (.t 7), none, 262144, 0, []⟩,
    ⟨(some 13), .faddr 0 (.t 2), none, 262400, 1, []⟩,
    ⟨(some 14), .load 1 false (.t 13), none, 262656, 2, []⟩,
    ⟨(some 15), .bin .lss (.t 12) (.t 14), none, 262912, 3, []⟩])
  (.cond (.t 15)
   (.skip)
   (.exit 0)))
  (.seq (.block 1 (.seq (.reg [⟨(some 18), .mv (.t 5), none, 393216, 0, []⟩,
    ⟨(some 19), .mv (.t 1), none, 393472, 1, []⟩,
    ⟨(some 20), .mv (.t 7), none, 393728, 2, []⟩,
    ⟨(some 21), .iaddr 2 (.t 19) (.t 20), none, 393984, 3, []⟩,
    ⟨(some 22), .faddr 0 (.t 21), none, 394240, 4, []⟩,
    ⟨(some 23), .load 1 false (.t 22), none, 394496, 5, []⟩,
    ⟨(some 24), .bslice true 1 [(.int .i64 0)] 1 [(0, (.t 23))], none, 394752, 6, []⟩,
    ⟨(some 25), .app true 1 8 (.t 18) (.t 24), none, 395008, 7, []⟩,
    ⟨(some 5), .mv (.t 25), none, 395264, 8, []⟩])
  (.reg [⟨(some 26), .mv (.t 6), none, 458752, 0, []⟩,
    ⟨(some 27), .mv (.t 1), none, 459008, 1, []⟩,
    ⟨(some 28), .mv (.t 7), none, 459264, 2, []⟩,
    ⟨(some 29), .iaddr 2 (.t 27) (.t 28), none, 459520, 3, []⟩,
    ⟨(some 30), .faddr 1 (.t 29), none, 459776, 4, []⟩,
    ⟨(some 31), .load 1 false (.t 30), none, 460032, 5, []⟩,
    ⟨(some 32), .bslice true 1 [(.str ByteArray.empty)] 1 [(0, (.t 31))], none, 460288, 6, []⟩,
    ⟨(some 33), .app true 1 16 (.t 26) (.t 32), none, 460544, 7, []⟩,
    ⟨(some 6), .mv (.t 33), none, 460800, 8, []⟩])))
  (.reg [⟨(some 16), .mv (.t 7), none, 327680, 0, []⟩,
    ⟨(some 17), .bin .add (.t 16) (.k (.int .i64 1)), none, 327936, 1, []⟩,
    ⟨(some 7), .mv (.t 17), none, 328192, 2, []⟩]))))))
 (.seq (.reg [⟨(some 35), .faddr 0 (.t 2), none, 524288, 0, []⟩,
   ⟨(some 36), .load 1 false (.t 35), none, 524544, 1, []⟩,
   ⟨(some 37), .faddr 1 (.t 2), none, 524800, 2, []⟩,
   ⟨(some 38), .load 1 false (.t 37), none, 525056, 3, []⟩,
   ⟨(some 39), .call 121 [(.t 36), (.t 38)] false, none, 525312, 4, []⟩,
   ⟨(some 40), .mv (.t 5), none, 525568, 5, []⟩,
   ⟨(some 41), .call 165 [(.t 39), (.t 40)] false, none, 525824, 6, []⟩,
   ⟨(some 42), .call 164 [(.t 41)] false, none, 526080, 7, []⟩,
   ⟨(some 34), .mv (.t 42), none, 526336, 8, []⟩,
   ⟨(some 43), .ext (.t 34) 0, none, 526592, 9, []⟩,
   ⟨(some 44), .ext (.t 34) 1, none, 526848, 10, []⟩,
   ⟨(some 8), .alloc [(.int .i64 0), (.int .i64 0), (.nil true 1)], none, 527104, 11, []⟩,
   ⟨none, .store 3 (.t 8) (.t 43), none, 527360, 12, []⟩,
   ⟨(some 9), .mv (.t 44), none, 527616, 13, []⟩])
 (.seq (.reg [⟨(some 45), .load 3 true (.t 8), none, 589824, 0, []⟩,
   ⟨(some 46), .mv (.t 6), none, 590080, 1, []⟩,
   ⟨(some 47), .call 89 [(.t 45), (.t 46)] false, none, 590336, 2, []⟩,
   ⟨(some 4), .mv (.t 47), none, 590592, 3, []⟩])
 (.ret))))))⟩
/-- loop.example/g00849/spec.l03Unit -/
def F150 : F := ⟨1, 31, [.cell 2 3 true],
 .seq (.reg [⟨(some 2), .alloc [(.int .i64 0), (.int .i64 0), (.nil true 1)], none, 0, 0, []⟩])
 (.seq (.reg [⟨(some 5), .mv (.t 0), none, 65536, 0, []⟩,
   ⟨(some 6), .mv (.t 0), none, 65792, 1, []⟩,
   ⟨(some 7), .build [(.int .i64 0), (.int .i64 0), (.nil true 1)] [(0, 1, (.t 5)), (1, 1, (.t 6))], none, 66048, 2, []⟩,
   ⟨(some 3), .alloc [(.int .i64 0), (.int .i64 0), (.nil true 1)], none, 66304, 3, []⟩,
   ⟨none, .store 3 (.t 3) (.t 7), none, 66560, 4, []⟩])
 (.seq (.seq (.reg [⟨(some 4), .mv (.k (.int .i64 0)), none, 131072, 0, []⟩])
 (.block 0 (.loop [0, 2, 3, 4] [0, 3, 66304, 66307, 66561, 66562, 66563, 524545, 524546, 524547]
  (.seq (.seq (.reg [⟨(some 8), .mv (.t 4), none, 196608, 0, []⟩,
    ⟨(some 9), .mv (.t 0), none, 196864, 1, []⟩,
    ⟨(some 10), .mv (.t 0), none, 197120, 2, []⟩,
    ⟨(some 11), .bin .mul (.t 9) (.t 10), none, 197376, 3, []⟩,
    ⟨(some 12), .bin .lss (.t 8) (.t 11), none, 197632, 4, []⟩])
  (.cond (.t 12)
   (.skip)
   (.exit 0)))
  (.seq (.block 1 (.seq (.reg [⟨(some 15), .mv (.t 4), none, 327680, 0, []⟩,
    ⟨(some 16), .mv (.t 0), none, 327936, 1, []⟩,
    ⟨(some 17), .bin .add (.t 16) (.k (.int .i64 1)), none, 328192, 2, []⟩,
    ⟨(some 18), .bin .rem (.t 15) (.t 17), none, 328448, 3, []⟩,
    ⟨(some 19), .bin .eql (.t 18) (.k (.int .i64 0)), none, 328704, 4, []⟩])
  (.cond (.t 19)
   (.reg [⟨(some 20), .faddr 2 (.t 3), none, 393216, 0, []⟩,
     ⟨(some 21), .load 1 false (.t 20), none, 393472, 1, []⟩,
     ⟨(some 22), .bslice true 1 [(.int .i64 0)] 1 [(0, (.k (.int .i64 1)))], none, 393728, 2, []⟩,
     ⟨(some 23), .app true 1 8 (.t 21) (.t 22), none, 393984, 3, []⟩,
     ⟨(some 24), .faddr 2 (.t 3), none, 394240, 4, []⟩,
     ⟨none, .store 1 (.t 24) (.t 23), none, 394496, 5, []⟩])
   (.reg [⟨(some 25), .faddr 2 (.t 3), none, 458752, 0, []⟩,
     ⟨(some 26), .load 1 false (.t 25), none, 459008, 1, []⟩,
     ⟨(some 27), .bslice true 1 [(.int .i64 0)] 1 [(0, (.k (.int .i64 0)))], none, 459264, 2, []⟩,
     ⟨(some 28), .app true 1 8 (.t 26) (.t 27), none, 459520, 3, []⟩,
     ⟨(some 29), .faddr 2 (.t 3), none, 459776, 4, []⟩,
     ⟨none, .store 1 (.t 29) (.t 28), none, 460032, 5, []⟩]))))
  (.reg [⟨(some 13), .mv (.t 4), none, 262144, 0, []⟩,
    ⟨(some 14), .bin .add (.t 13) (.k (.int .i64 1)), none, 262400, 1, []⟩,
    ⟨(some 4), .mv (.t 14), none, 262656, 2, []⟩]))))))
 (.seq (.reg [⟨(some 30), .load 3 true (.t 3), none, 524288, 0, []⟩,
   ⟨none, .store 3 (.t 2) (.t 30), none, 524544, 1, []⟩])
 (.ret))))⟩
/-- loop.example/g00849/spec.l02Times -/
def F151 : F := ⟨2, 26, [.t 4],
 .seq (.reg [⟨(some 4), .mv (.k (.int .i64 0)), none, 0, 0, []⟩])
 (.seq (.reg [⟨(some 5), .mv (.k (.int .i64 0)), none, 65536, 0, []⟩])
 (.seq (.seq (.reg [⟨(some 6), .mv (.k (.int .i64 0)), none, 131072, 0, []⟩])
 (.block 0 (.loop [0, 1, 5, 6] []
  (.seq (.seq (.reg [⟨(some 7), .mv (.t 6), none, 196608, 0, []⟩,
    ⟨(some 8), .bin .lss (.t 7) (.k (.int .i64 8)), none, 196864, 1, []⟩])
  (.cond (.t 8)
   (.skip)
   (.exit 0)))
  (.seq (.block 1 (.seq (.seq (.reg [⟨(some 11), .mv (.t 1), none, 327680, 0, []⟩,
    ⟨(some 12), .bin .and (.t 11) (.k (.int .i64 1)), none, 327936, 1, []⟩,
    ⟨(some 13), .bin .neq (.t 12) (.k (.int .i64 0)), none, 328192, 2, []⟩])
  (.cond (.t 13)
   (.reg [⟨(some 14), .mv (.t 5), none, 393216, 0, []⟩,
     ⟨(some 15), .mv (.t 0), none, 393472, 1, []⟩,
     ⟨(some 16), .bin .xor (.t 14) (.t 15), none, 393728, 2, []⟩,
     ⟨(some 5), .mv (.t 16), none, 393984, 3, []⟩])
   (.skip)))
  (.seq (.reg [⟨(some 17), .mv (.t 1), none, 458752, 0, []⟩,
    ⟨(some 18), .bin .shr (.t 17) (.k (.int .u64 1)), none, 459008, 1, []⟩,
    ⟨(some 1), .mv (.t 18), none, 459264, 2, []⟩])
  (.seq (.reg [⟨(some 19), .mv (.t 0), none, 524288, 0, []⟩,
    ⟨(some 20), .bin .shl (.t 19) (.k (.int .u64 1)), none, 524544, 1, []⟩,
    ⟨(some 0), .mv (.t 20), none, 524800, 2, []⟩])
  (.seq (.reg [⟨(some 21), .mv (.t 0), none, 589824, 0, []⟩,
    ⟨(some 22), .bin .gtr (.t 21) (.k (.int .i64 255)), none, 590080, 1, []⟩])
  (.cond (.t 22)
   (.reg [⟨(some 23), .mv (.t 0), none, 655360, 0, []⟩,
     ⟨(some 24), .bin .xor (.t 23) (.k (.int .i64 285)), none, 655616, 1, []⟩,
     ⟨(some 0), .mv (.t 24), none, 655872, 2, []⟩])
   (.skip)))))))
  (.reg [⟨(some 9), .mv (.t 6), none, 262144, 0, []⟩,
    ⟨(some 10), .bin .add (.t 9) (.k (.int .i64 1)), none, 262400, 1, []⟩,
    ⟨(some 6), .mv (.t 10), none, 262656, 2, []⟩]))))))
 (.seq (.reg [⟨(some 25), .mv (.t 5), none, 720896, 0, []⟩,
   ⟨(some 4), .mv (.t 25), none, 721152, 1, []⟩])
 (.ret))))⟩
/-- loop.example/g00849/spec.l02Inv -/
def F152 : F := ⟨1, 5, [.t 2],
 .seq (.reg [⟨(some 2), .mv (.k (.int .i64 0)), none, 0, 0, []⟩])
 (.seq (.reg [⟨(some 3), .mv (.t 0), none, 65536, 0, []⟩,
   ⟨(some 4), .call 166 [(.t 3), (.k (.int .i64 254))] true, none, 65792, 1, []⟩,
   ⟨(some 2), .mv (.t 4), none, 66048, 2, []⟩])
 (.ret))⟩
/-- slices.IndexFunc[[]int64,int64] -/
def F157 : F := ⟨2, 19, [.t 4],
 .seq (.reg [⟨(some 4), .mv (.k (.int .i64 0)), none, 0, 0, []⟩])
 (.seq (.seq (.reg [⟨(some 6), .mv (.t 0), none, 65536, 0, []⟩,
   ⟨(some 7), .len false (.t 6), none, 65792, 1, []⟩,
   ⟨(some 8), .mv (.k (.int .i64 0)), none, 66048, 2, []⟩])
 (.block 0 (.loop [0, 1, 7, 8] []
  (.seq (.reg [⟨(some 9), .bin .lss (.t 8) (.t 7), none, 131072, 0, []⟩])
  (.seq (.cond (.t 9)
   (.skip)
   (.exit 0))
  (.seq (.block 1 (.seq (.reg [⟨(some 10), .mv (.t 8), none, 196608, 0, []⟩,
    ⟨(some 5), .mv (.t 10), none, 196864, 1, []⟩])
  (.seq (.reg [⟨(some 11), .mv (.t 1), none, 262144, 0, []⟩,
    ⟨(some 12), .mv (.t 0), none, 262400, 1, []⟩,
    ⟨(some 13), .mv (.t 5), none, 262656, 2, []⟩,
    ⟨(some 14), .iaddr 1 (.t 12) (.t 13), none, 262912, 3, []⟩,
    ⟨(some 15), .load 1 false (.t 14), none, 263168, 4, []⟩,
    ⟨(some 16), .callv (.t 11) [(.t 15)] true, none, 263424, 5, []⟩])
  (.cond (.t 16)
   (.seq (.reg [⟨(some 17), .mv (.t 5), none, 327680, 0, []⟩,
     ⟨(some 4), .mv (.t 17), none, 327936, 1, []⟩])
   (.ret))
   (.skip)))))
  (.reg [⟨(some 18), .bin .add (.t 8) (.k (.int .i64 1)), none, 393216, 0, []⟩,
    ⟨(some 8), .mv (.t 18), none, 393472, 1, []⟩])))))))
 (.seq (.reg [⟨(some 4), .mv (.k (.int .i64 (-1))), none, 458752, 0, []⟩])
 (.ret)))⟩
/-- loop.example/g00849/impl.times -/
def F158 : F := ⟨2, 19, [.t 4],
 .seq (.reg [⟨(some 4), .mv (.k (.int .i64 0)), none, 0, 0, []⟩])
 (.seq (.reg [⟨(some 5), .mv (.k (.int .i64 0)), none, 65536, 0, []⟩])
 (.seq (.block 0 (.loop [0, 1, 5] []
  (.seq (.seq (.reg [⟨(some 6), .mv (.t 1), none, 131072, 0, []⟩,
    ⟨(some 7), .bin .gtr (.t 6) (.k (.int .i64 0)), none, 131328, 1, []⟩])
  (.cond (.t 7)
   (.skip)
   (.exit 0)))
  (.seq (.block 1 (.seq (.seq (.reg [⟨(some 10), .mv (.t 1), none, 262144, 0, []⟩,
    ⟨(some 11), .bin .rem (.t 10) (.k (.int .i64 2)), none, 262400, 1, []⟩,
    ⟨(some 12), .bin .eql (.t 11) (.k (.int .i64 1)), none, 262656, 2, []⟩])
  (.cond (.t 12)
   (.reg [⟨(some 13), .mv (.t 5), none, 327680, 0, []⟩,
     ⟨(some 14), .mv (.t 0), none, 327936, 1, []⟩,
     ⟨(some 15), .bin .xor (.t 13) (.t 14), none, 328192, 2, []⟩,
     ⟨(some 5), .mv (.t 15), none, 328448, 3, []⟩])
   (.skip)))
  (.reg [⟨(some 16), .mv (.t 0), none, 393216, 0, []⟩,
    ⟨(some 17), .call 171 [(.t 16)] true, none, 393472, 1, []⟩,
    ⟨(some 0), .mv (.t 17), none, 393728, 2, []⟩])))
  (.reg [⟨(some 8), .mv (.t 1), none, 196608, 0, []⟩,
    ⟨(some 9), .bin .quo (.t 8) (.k (.int .i64 2)), none, 196864, 1, []⟩,
    ⟨(some 1), .mv (.t 9), none, 197120, 2, []⟩])))))
 (.seq (.reg [⟨(some 18), .mv (.t 5), none, 458752, 0, []⟩,
   ⟨(some 4), .mv (.t 18), none, 459008, 1, []⟩])
 (.ret))))⟩
/-- slices.Clone[[]int64,int64] -/
def F160 : F := ⟨1, 8, [.t 2],
 .seq (.reg [⟨(some 2), .nil0 true 1, none, 0, 0, []⟩])
 (.seq (.seq (.reg [⟨(some 3), .mv (.t 0), none, 65536, 0, []⟩])
 (.ifnil false 4 (.t 3)
  (.seq (.reg [⟨(some 2), .nil0 true 1, none, 131072, 0, []⟩])
  (.ret))
  (.skip)))
 (.seq (.reg [⟨(some 5), .bslice true 1 [(.int .i64 0)] 0 [], none, 196608, 0, []⟩,
   ⟨(some 6), .mv (.t 0), none, 196864, 1, []⟩,
   ⟨(some 7), .app true 1 8 (.t 5) (.t 6), none, 197120, 2, []⟩,
   ⟨(some 2), .mv (.t 7), none, 197376, 3, []⟩])
 (.ret)))⟩
/-- loop.example/g00849/impl.unit -/
def F161 : F := ⟨1, 23, [.cell 2 3 true],
 .seq (.reg [⟨(some 2), .alloc [(.int .i64 0), (.int .i64 0), (.nil true 1)], none, 0, 0, []⟩])
 (.seq (.reg [⟨(some 5), .mv (.t 0), none, 65536, 0, []⟩,
   ⟨(some 6), .mv (.t 0), none, 65792, 1, []⟩,
   ⟨(some 7), .mv (.t 0), none, 66048, 2, []⟩,
   ⟨(some 8), .mv (.t 0), none, 66304, 3, []⟩,
   ⟨(some 9), .bin .mul (.t 7) (.t 8), none, 66560, 4, []⟩,
   ⟨(some 10), .mksl true 1 8 [(.int .i64 0)] (.t 9) (.t 9), none, 66816, 5, []⟩,
   ⟨(some 11), .build [(.int .i64 0), (.int .i64 0), (.nil true 1)] [(0, 1, (.t 5)), (1, 1, (.t 6)), (2, 1, (.t 10))], none, 67072, 6, []⟩,
   ⟨(some 3), .alloc [(.int .i64 0), (.int .i64 0), (.nil true 1)], none, 67328, 7, []⟩,
   ⟨none, .store 3 (.t 3) (.t 11), none, 67584, 8, []⟩])
 (.seq (.seq (.reg [⟨(some 12), .mv (.t 0), none, 131072, 0, []⟩,
   ⟨(some 13), .mv (.k (.int .i64 0)), none, 131328, 1, []⟩])
 (.block 0 (.loop [2, 3, 12, 13] [0, 3, 66816, 67328, 67331, 67585, 67586, 67587, 459009, 459010, 459011]
  (.seq (.reg [⟨(some 14), .bin .lss (.t 13) (.t 12), none, 196608, 0, []⟩])
  (.seq (.cond (.t 14)
   (.skip)
   (.exit 0))
  (.seq (.block 1 (.seq (.reg [⟨(some 15), .mv (.t 13), none, 262144, 0, []⟩,
    ⟨(some 4), .mv (.t 15), none, 262400, 1, []⟩])
  (.reg [⟨(some 16), .load 3 true (.t 3), none, 327680, 0, []⟩,
    ⟨(some 17), .mv (.t 4), none, 327936, 1, []⟩,
    ⟨(some 18), .call 134 [(.t 16), (.t 17)] false, none, 328192, 2, []⟩,
    ⟨(some 19), .mv (.t 4), none, 328448, 3, []⟩,
    ⟨(some 20), .iaddr 1 (.t 18) (.t 19), none, 328704, 4, []⟩,
    ⟨none, .store 1 (.t 20) (.k (.int .i64 1)), none, 328960, 5, []⟩])))
  (.reg [⟨(some 21), .bin .add (.t 13) (.k (.int .i64 1)), none, 393216, 0, []⟩,
    ⟨(some 13), .mv (.t 21), none, 393472, 1, []⟩])))))))
 (.seq (.reg [⟨(some 22), .load 3 true (.t 3), none, 458752, 0, []⟩,
   ⟨none, .store 3 (.t 2) (.t 22), none, 459008, 1, []⟩])
 (.ret))))⟩
/-- loop.example/g00849/impl.addTo -/
def F162 : F := ⟨3, 25, [],
 .seq (.reg [⟨(some 8), .mv (.t 1), none, 0, 0, []⟩,
   ⟨(some 9), .len false (.t 8), none, 256, 1, []⟩,
   ⟨(some 10), .mv (.k (.int .i64 0)), none, 512, 2, []⟩])
 (.block 0 (.loop [0, 2, 8, 9, 10] []
  (.seq (.reg [⟨(some 11), .bin .lss (.t 10) (.t 9), none, 65536, 0, []⟩])
  (.seq (.cond (.t 11)
   (.skip)
   (.exit 0))
  (.seq (.block 1 (.seq (.reg [⟨(some 12), .mv (.t 10), none, 131072, 0, []⟩,
    ⟨(some 13), .iaddr 1 (.t 8) (.t 10), none, 131328, 1, []⟩,
    ⟨(some 14), .load 1 false (.t 13), none, 131584, 2, []⟩,
    ⟨(some 6), .mv (.t 12), none, 131840, 3, []⟩,
    ⟨(some 7), .mv (.t 14), none, 132096, 4, []⟩])
  (.reg [⟨(some 15), .mv (.t 0), none, 196608, 0, []⟩,
    ⟨(some 16), .mv (.t 6), none, 196864, 1, []⟩,
    ⟨(some 17), .iaddr 1 (.t 15) (.t 16), none, 197120, 2, []⟩,
    ⟨(some 18), .load 1 false (.t 17), none, 197376, 3, []⟩,
    ⟨(some 19), .mv (.t 2), none, 197632, 4, []⟩,
    ⟨(some 20), .mv (.t 7), none, 197888, 5, []⟩,
    ⟨(some 21), .call 158 [(.t 19), (.t 20)] true, none, 198144, 6, []⟩,
    ⟨(some 22), .bin .xor (.t 18) (.t 21), none, 198400, 7, []⟩,
    ⟨(some 23), .iaddr 1 (.t 15) (.t 16), none, 198656, 8, []⟩,
    ⟨none, .store 1 (.t 23) (.t 22), none, 198912, 9, []⟩])))
  (.reg [⟨(some 24), .bin .add (.t 10) (.k (.int .i64 1)), none, 262144, 0, []⟩,
    ⟨(some 10), .mv (.t 24), none, 262400, 1, []⟩]))))))⟩
/-- loop.example/g00849/impl.inverse -/
def F163 : F := ⟨1, 5, [.t 2],
 .seq (.reg [⟨(some 2), .mv (.k (.int .i64 0)), none, 0, 0, []⟩])
 (.seq (.reg [⟨(some 3), .mv (.t 0), none, 65536, 0, []⟩,
   ⟨(some 4), .call 173 [(.t 3), (.k (.int .i64 254))] true, none, 65792, 1, []⟩,
   ⟨(some 2), .mv (.t 4), none, 66048, 2, []⟩])
 (.ret))⟩
/-- loop.example/g00849/spec.l03Inv -/
def F164 : F := ⟨1, 60, [.cell 2 3 true, .t 3],
 .seq (.reg [⟨(some 1), .box (.t 0), none, 0, 0, []⟩,
   ⟨(some 2), .alloc [(.int .i64 0), (.int .i64 0), (.nil true 1)], none, 256, 1, []⟩,
   ⟨(some 3), .mv (.k (.bool false)), none, 512, 2, []⟩])
 (.seq (.reg [⟨(some 9), .faddr 1 (.t 1), none, 65536, 0, []⟩,
   ⟨(some 10), .load 1 false (.t 9), none, 65792, 1, []⟩,
   ⟨(some 4), .mv (.t 10), none, 66048, 2, []⟩])
 (.seq (.reg [⟨(some 11), .faddr 2 (.t 1), none, 131072, 0, []⟩,
   ⟨(some 12), .load 1 false (.t 11), none, 131328, 1, []⟩,
   ⟨(some 13), .call 174 [(.t 12)] false, none, 131584, 2, []⟩,
   ⟨(some 5), .mv (.t 13), none, 131840, 3, []⟩])
 (.seq (.reg [⟨(some 14), .mv (.t 4), none, 196608, 0, []⟩,
   ⟨(some 15), .call 150 [(.t 14)] false, none, 196864, 1, []⟩,
   ⟨(some 6), .alloc [(.int .i64 0), (.int .i64 0), (.nil true 1)], none, 197120, 2, []⟩,
   ⟨none, .store 3 (.t 6) (.t 15), none, 197376, 3, []⟩])
 (.seq (.seq (.reg [⟨(some 7), .mv (.k (.int .i64 0)), none, 262144, 0, []⟩])
 (.block 0 (.loop [2, 4, 5, 6, 7] [0, 1, 2, 3, 4, 5, 256, 259, 131584, 131585, 131586, 131587, 196864, 196865, 196866, 196867, 197120, 197123, 197377, 197378, 197379, 983297, 983298, 983299]
  (.seq (.seq (.reg [⟨(some 16), .mv (.t 7), none, 327680, 0, []⟩,
    ⟨(some 17), .mv (.t 4), none, 327936, 1, []⟩,
    ⟨(some 18), .bin .lss (.t 16) (.t 17), none, 328192, 2, []⟩])
  (.cond (.t 18)
   (.skip)
   (.exit 0)))
  (.seq (.block 1 (.seq (.reg [⟨(some 21), .mv (.t 7), none, 458752, 0, []⟩,
    ⟨(some 8), .mv (.t 21), none, 459008, 1, []⟩])
  (.seq (.block 2 (.loop [2, 4, 5, 6, 7, 8] [0, 1, 2, 3, 4, 5, 256, 259, 131584, 131585, 131586, 131587, 196864, 196865, 196866, 196867, 197120, 197123, 197377, 197378, 197379, 721153, 721154, 721155, 983297, 983298, 983299]
   (.seq (.seq (.reg [⟨(some 22), .mv (.t 8), none, 524288, 0, []⟩,
     ⟨(some 23), .mv (.t 4), none, 524544, 1, []⟩,
     ⟨(some 24), .bin .lss (.t 22) (.t 23), none, 524800, 2, []⟩,
     ⟨(some 25), .mv (.t 24), none, 525056, 3, []⟩,
     ⟨(some 26), .mv (.t 5), (some (some 25, true)), 525312, 4, []⟩,
     ⟨(some 27), .mv (.t 8), (some (some 25, true)), 525568, 5, []⟩,
     ⟨(some 28), .mv (.t 4), (some (some 25, true)), 525824, 6, []⟩,
     ⟨(some 29), .bin .mul (.t 27) (.t 28), (some (some 25, true)), 526080, 7, []⟩,
     ⟨(some 30), .mv (.t 7), (some (some 25, true)), 526336, 8, []⟩,
     ⟨(some 31), .bin .add (.t 29) (.t 30), (some (some 25, true)), 526592, 9, []⟩,
     ⟨(some 32), .iaddr 1 (.t 26) (.t 31), (some (some 25, true)), 526848, 10, []⟩,
     ⟨(some 33), .load 1 false (.t 32), (some (some 25, true)), 527104, 11, []⟩,
     ⟨(some 34), .bin .eql (.t 33) (.k (.int .i64 0)), (some (some 25, true)), 527360, 12, []⟩,
     ⟨(some 35), .pick (.t 25) (.t 34) (.k (.bool false)), none, 527616, 13, []⟩])
   (.cond (.t 35)
    (.skip)
    (.exit 2)))
   (.block 3 (.reg [⟨(some 36), .mv (.t 8), none, 589824, 0, []⟩,
     ⟨(some 37), .bin .add (.t 36) (.k (.int .i64 1)), none, 590080, 1, []⟩,
     ⟨(some 8), .mv (.t 37), none, 590336, 2, []⟩])))))
  (.seq (.seq (.reg [⟨(some 38), .mv (.t 8), none, 655360, 0, []⟩,
    ⟨(some 39), .mv (.t 4), none, 655616, 1, []⟩,
    ⟨(some 40), .bin .eql (.t 38) (.t 39), none, 655872, 2, []⟩])
  (.cond (.t 40)
   (.seq (.reg [⟨(some 41), .build [(.int .i64 0), (.int .i64 0), (.nil true 1)] [], none, 720896, 0, []⟩,
     ⟨none, .store 3 (.t 2) (.t 41), none, 721152, 1, []⟩,
     ⟨(some 3), .mv (.k (.bool false)), none, 721408, 2, []⟩])
   (.ret))
   (.skip)))
  (.seq (.reg [⟨(some 42), .mv (.t 5), none, 786432, 0, []⟩,
    ⟨(some 43), .mv (.t 4), none, 786688, 1, []⟩,
    ⟨(some 44), .mv (.t 7), none, 786944, 2, []⟩,
    ⟨(some 45), .mv (.t 8), none, 787200, 3, []⟩,
    ⟨(some 46), .call 175 [(.t 42), (.t 43), (.t 44), (.t 45)] true, none, 787456, 4, []⟩])
  (.seq (.reg [⟨(some 47), .faddr 2 (.t 6), none, 851968, 0, []⟩,
    ⟨(some 48), .load 1 false (.t 47), none, 852224, 1, []⟩,
    ⟨(some 49), .mv (.t 4), none, 852480, 2, []⟩,
    ⟨(some 50), .mv (.t 7), none, 852736, 3, []⟩,
    ⟨(some 51), .mv (.t 8), none, 852992, 4, []⟩,
    ⟨(some 52), .call 175 [(.t 48), (.t 49), (.t 50), (.t 51)] true, none, 853248, 5, []⟩])
  (.reg [⟨(some 53), .mv (.t 5), none, 917504, 0, []⟩,
    ⟨(some 54), .faddr 2 (.t 6), none, 917760, 1, []⟩,
    ⟨(some 55), .load 1 false (.t 54), none, 918016, 2, []⟩,
    ⟨(some 56), .mv (.t 4), none, 918272, 3, []⟩,
    ⟨(some 57), .mv (.t 7), none, 918528, 4, []⟩,
    ⟨(some 58), .call 176 [(.t 53), (.t 55), (.t 56), (.t 57)] true, none, 918784, 5, []⟩])))))))
  (.reg [⟨(some 19), .mv (.t 7), none, 393216, 0, []⟩,
    ⟨(some 20), .bin .add (.t 19) (.k (.int .i64 1)), none, 393472, 1, []⟩,
    ⟨(some 7), .mv (.t 20), none, 393728, 2, []⟩]))))))
 (.seq (.reg [⟨(some 59), .load 3 true (.t 6), none, 983040, 0, []⟩,
   ⟨none, .store 3 (.t 2) (.t 59), none, 983296, 1, []⟩,
   ⟨(some 3), .mv (.k (.bool true)), none, 983552, 2, []⟩])
 (.ret))))))⟩
/-- loop.example/g00849/spec.l03Rows -/
def F165 : F := ⟨2, 41, [.cell 4 3 true],
 .seq (.reg [⟨(some 2), .box (.t 0), none, 0, 0, []⟩,
   ⟨(some 4), .alloc [(.int .i64 0), (.int .i64 0), (.nil true 1)], none, 256, 1, []⟩])
 (.seq (.reg [⟨(some 7), .mv (.t 1), none, 65536, 0, []⟩,
   ⟨(some 8), .len false (.t 7), none, 65792, 1, []⟩,
   ⟨(some 9), .faddr 1 (.t 2), none, 66048, 2, []⟩,
   ⟨(some 10), .load 1 false (.t 9), none, 66304, 3, []⟩,
   ⟨(some 11), .build [(.int .i64 0), (.int .i64 0), (.nil true 1)] [(0, 1, (.t 8)), (1, 1, (.t 10))], none, 66560, 4, []⟩,
   ⟨(some 5), .alloc [(.int .i64 0), (.int .i64 0), (.nil true 1)], none, 66816, 5, []⟩,
   ⟨none, .store 3 (.t 5) (.t 11), none, 67072, 6, []⟩])
 (.seq (.seq (.reg [⟨(some 6), .mv (.k (.int .i64 0)), none, 131072, 0, []⟩])
 (.block 0 (.loop [1, 2, 4, 5, 6] [0, 1, 2, 3, 4, 5, 256, 259, 66816, 66819, 67073, 67074, 67075, 393473, 393474, 393475]
  (.seq (.seq (.reg [⟨(some 12), .mv (.t 6), none, 196608, 0, []⟩,
    ⟨(some 13), .mv (.t 1), none, 196864, 1, []⟩,
    ⟨(some 14), .len false (.t 13), none, 197120, 2, []⟩,
    ⟨(some 15), .bin .lss (.t 12) (.t 14), none, 197376, 3, []⟩])
  (.cond (.t 15)
   (.skip)
   (.exit 0)))
  (.seq (.block 1 (.reg [⟨(some 18), .faddr 2 (.t 5), none, 327680, 0, []⟩,
    ⟨(some 19), .load 1 false (.t 18), none, 327936, 1, []⟩,
    ⟨(some 20), .faddr 2 (.t 2), none, 328192, 2, []⟩,
    ⟨(some 21), .load 1 false (.t 20), none, 328448, 3, []⟩,
    ⟨(some 22), .mv (.t 1), none, 328704, 4, []⟩,
    ⟨(some 23), .mv (.t 6), none, 328960, 5, []⟩,
    ⟨(some 24), .iaddr 1 (.t 22) (.t 23), none, 329216, 6, []⟩,
    ⟨(some 25), .load 1 false (.t 24), none, 329472, 7, []⟩,
    ⟨(some 26), .faddr 1 (.t 2), none, 329728, 8, []⟩,
    ⟨(some 27), .load 1 false (.t 26), none, 329984, 9, []⟩,
    ⟨(some 28), .bin .mul (.t 25) (.t 27), none, 330240, 10, []⟩,
    ⟨(some 29), .mv (.t 1), none, 330496, 11, []⟩,
    ⟨(some 30), .mv (.t 6), none, 330752, 12, []⟩,
    ⟨(some 31), .iaddr 1 (.t 29) (.t 30), none, 331008, 13, []⟩,
    ⟨(some 32), .load 1 false (.t 31), none, 331264, 14, []⟩,
    ⟨(some 33), .bin .add (.t 32) (.k (.int .i64 1)), none, 331520, 15, []⟩,
    ⟨(some 34), .faddr 1 (.t 2), none, 331776, 16, []⟩,
    ⟨(some 35), .load 1 false (.t 34), none, 332032, 17, []⟩,
    ⟨(some 36), .bin .mul (.t 33) (.t 35), none, 332288, 18, []⟩,
    ⟨(some 37), .cut 1 (.t 21) (some (.t 28)) (some (.t 36)), none, 332544, 19, []⟩,
    ⟨(some 38), .app true 1 8 (.t 19) (.t 37), none, 332800, 20, []⟩,
    ⟨(some 39), .faddr 2 (.t 5), none, 333056, 21, []⟩,
    ⟨none, .store 1 (.t 39) (.t 38), none, 333312, 22, []⟩]))
  (.reg [⟨(some 16), .mv (.t 6), none, 262144, 0, []⟩,
    ⟨(some 17), .bin .add (.t 16) (.k (.int .i64 1)), none, 262400, 1, []⟩,
    ⟨(some 6), .mv (.t 17), none, 262656, 2, []⟩]))))))
 (.seq (.reg [⟨(some 40), .load 3 true (.t 5), none, 393216, 0, []⟩,
   ⟨none, .store 3 (.t 4) (.t 40), none, 393472, 1, []⟩])
 (.ret))))⟩
/-- loop.example/g00849/spec.l02Pow -/
def F166 : F := ⟨2, 20, [.t 4],
 .seq (.reg [⟨(some 4), .mv (.k (.int .i64 0)), none, 0, 0, []⟩])
 (.seq (.reg [⟨(some 5), .mv (.k (.int .i64 1)), none, 65536, 0, []⟩])
 (.seq (.block 0 (.loop [0, 1, 5] []
  (.seq (.seq (.reg [⟨(some 6), .mv (.t 1), none, 131072, 0, []⟩,
    ⟨(some 7), .bin .gtr (.t 6) (.k (.int .i64 0)), none, 131328, 1, []⟩])
  (.cond (.t 7)
   (.skip)
   (.exit 0)))
  (.block 1 (.seq (.seq (.reg [⟨(some 8), .mv (.t 1), none, 196608, 0, []⟩,
    ⟨(some 9), .bin .rem (.t 8) (.k (.int .i64 2)), none, 196864, 1, []⟩,
    ⟨(some 10), .bin .eql (.t 9) (.k (.int .i64 1)), none, 197120, 2, []⟩])
  (.cond (.t 10)
   (.reg [⟨(some 11), .mv (.t 5), none, 262144, 0, []⟩,
     ⟨(some 12), .mv (.t 0), none, 262400, 1, []⟩,
     ⟨(some 13), .call 151 [(.t 11), (.t 12)] true, none, 262656, 2, []⟩,
     ⟨(some 5), .mv (.t 13), none, 262912, 3, []⟩])
   (.skip)))
  (.seq (.reg [⟨(some 14), .mv (.t 0), none, 327680, 0, []⟩,
    ⟨(some 15), .mv (.t 0), none, 327936, 1, []⟩,
    ⟨(some 16), .call 151 [(.t 14), (.t 15)] true, none, 328192, 2, []⟩,
    ⟨(some 0), .mv (.t 16), none, 328448, 3, []⟩])
  (.reg [⟨(some 17), .mv (.t 1), none, 393216, 0, []⟩,
    ⟨(some 18), .bin .quo (.t 17) (.k (.int .i64 2)), none, 393472, 1, []⟩,
    ⟨(some 1), .mv (.t 18), none, 393728, 2, []⟩])))))))
 (.seq (.reg [⟨(some 19), .mv (.t 5), none, 458752, 0, []⟩,
   ⟨(some 4), .mv (.t 19), none, 459008, 1, []⟩])
 (.ret))))⟩
/-- loop.example/g00849/impl.double -/
def F171 : F := ⟨1, 10, [.t 2],
 .seq (.reg [⟨(some 2), .mv (.k (.int .i64 0)), none, 0, 0, []⟩])
 (.seq (.reg [⟨(some 3), .mv (.t 0), none, 65536, 0, []⟩,
   ⟨(some 4), .bin .mul (.t 3) (.k (.int .i64 2)), none, 65792, 1, []⟩,
   ⟨(some 0), .mv (.t 4), none, 66048, 2, []⟩])
 (.seq (.seq (.reg [⟨(some 5), .mv (.t 0), none, 131072, 0, []⟩,
   ⟨(some 6), .bin .gtr (.t 5) (.k (.int .i64 255)), none, 131328, 1, []⟩])
 (.cond (.t 6)
  (.reg [⟨(some 7), .mv (.t 0), none, 196608, 0, []⟩,
    ⟨(some 8), .bin .xor (.t 7) (.k (.int .i64 285)), none, 196864, 1, []⟩,
    ⟨(some 0), .mv (.t 8), none, 197120, 2, []⟩])
  (.skip)))
 (.seq (.reg [⟨(some 9), .mv (.t 0), none, 262144, 0, []⟩,
   ⟨(some 2), .mv (.t 9), none, 262400, 1, []⟩])
 (.ret))))⟩
/-- loop.example/g00849/impl.power -/
def F173 : F := ⟨2, 20, [.t 4],
 .seq (.reg [⟨(some 4), .mv (.k (.int .i64 0)), none, 0, 0, []⟩])
 (.seq (.reg [⟨(some 5), .mv (.k (.int .i64 1)), none, 65536, 0, []⟩])
 (.seq (.block 0 (.loop [0, 1, 5] []
  (.seq (.seq (.reg [⟨(some 6), .mv (.t 1), none, 131072, 0, []⟩,
    ⟨(some 7), .bin .gtr (.t 6) (.k (.int .i64 0)), none, 131328, 1, []⟩])
  (.cond (.t 7)
   (.skip)
   (.exit 0)))
  (.seq (.block 1 (.seq (.seq (.reg [⟨(some 10), .mv (.t 1), none, 262144, 0, []⟩,
    ⟨(some 11), .bin .rem (.t 10) (.k (.int .i64 2)), none, 262400, 1, []⟩,
    ⟨(some 12), .bin .eql (.t 11) (.k (.int .i64 1)), none, 262656, 2, []⟩])
  (.cond (.t 12)
   (.reg [⟨(some 13), .mv (.t 5), none, 327680, 0, []⟩,
     ⟨(some 14), .mv (.t 0), none, 327936, 1, []⟩,
     ⟨(some 15), .call 158 [(.t 13), (.t 14)] true, none, 328192, 2, []⟩,
     ⟨(some 5), .mv (.t 15), none, 328448, 3, []⟩])
   (.skip)))
  (.reg [⟨(some 16), .mv (.t 0), none, 393216, 0, []⟩,
    ⟨(some 17), .mv (.t 0), none, 393472, 1, []⟩,
    ⟨(some 18), .call 158 [(.t 16), (.t 17)] true, none, 393728, 2, []⟩,
    ⟨(some 0), .mv (.t 18), none, 393984, 3, []⟩])))
  (.reg [⟨(some 8), .mv (.t 1), none, 196608, 0, []⟩,
    ⟨(some 9), .bin .quo (.t 8) (.k (.int .i64 2)), none, 196864, 1, []⟩,
    ⟨(some 1), .mv (.t 9), none, 197120, 2, []⟩])))))
 (.seq (.reg [⟨(some 19), .mv (.t 5), none, 458752, 0, []⟩,
   ⟨(some 4), .mv (.t 19), none, 459008, 1, []⟩])
 (.ret))))⟩
/-- loop.example/g00849/spec.l00Own -/
def F174 : F := ⟨1, 6, [.t 2],
 .seq (.reg [⟨(some 2), .nil0 true 1, none, 0, 0, []⟩])
 (.seq (.reg [⟨(some 3), .bslice true 1 [(.int .i64 0)] 0 [], none, 65536, 0, []⟩,
   ⟨(some 4), .mv (.t 0), none, 65792, 1, []⟩,
   ⟨(some 5), .app true 1 8 (.t 3) (.t 4), none, 66048, 2, []⟩,
   ⟨(some 2), .mv (.t 5), none, 66304, 3, []⟩])
 (.ret))⟩
/-- loop.example/g00849/spec.l03Swap -/
def F175 : F := ⟨4, 46, [],
 .seq (.reg [⟨(some 8), .mv (.k (.int .i64 0)), none, 0, 0, []⟩])
 (.block 0 (.loop [0, 1, 2, 3, 8] []
  (.seq (.seq (.reg [⟨(some 10), .mv (.t 8), none, 65536, 0, []⟩,
    ⟨(some 11), .mv (.t 1), none, 65792, 1, []⟩,
    ⟨(some 12), .bin .lss (.t 10) (.t 11), none, 66048, 2, []⟩])
  (.cond (.t 12)
   (.skip)
   (.exit 0)))
  (.seq (.block 1 (.seq (.reg [⟨(some 15), .mv (.t 0), none, 196608, 0, []⟩,
    ⟨(some 16), .mv (.t 2), none, 196864, 1, []⟩,
    ⟨(some 17), .mv (.t 1), none, 197120, 2, []⟩,
    ⟨(some 18), .bin .mul (.t 16) (.t 17), none, 197376, 3, []⟩,
    ⟨(some 19), .mv (.t 8), none, 197632, 4, []⟩,
    ⟨(some 20), .bin .add (.t 18) (.t 19), none, 197888, 5, []⟩,
    ⟨(some 21), .iaddr 1 (.t 15) (.t 20), none, 198144, 6, []⟩,
    ⟨(some 22), .load 1 false (.t 21), none, 198400, 7, []⟩,
    ⟨(some 9), .mv (.t 22), none, 198656, 8, []⟩])
  (.seq (.reg [⟨(some 23), .mv (.t 0), none, 262144, 0, []⟩,
    ⟨(some 24), .mv (.t 2), none, 262400, 1, []⟩,
    ⟨(some 25), .mv (.t 1), none, 262656, 2, []⟩,
    ⟨(some 26), .bin .mul (.t 24) (.t 25), none, 262912, 3, []⟩,
    ⟨(some 27), .mv (.t 8), none, 263168, 4, []⟩,
    ⟨(some 28), .bin .add (.t 26) (.t 27), none, 263424, 5, []⟩,
    ⟨(some 29), .mv (.t 0), none, 263680, 6, []⟩,
    ⟨(some 30), .mv (.t 3), none, 263936, 7, []⟩,
    ⟨(some 31), .mv (.t 1), none, 264192, 8, []⟩,
    ⟨(some 32), .bin .mul (.t 30) (.t 31), none, 264448, 9, []⟩,
    ⟨(some 33), .mv (.t 8), none, 264704, 10, []⟩,
    ⟨(some 34), .bin .add (.t 32) (.t 33), none, 264960, 11, []⟩,
    ⟨(some 35), .iaddr 1 (.t 29) (.t 34), none, 265216, 12, []⟩,
    ⟨(some 36), .load 1 false (.t 35), none, 265472, 13, []⟩,
    ⟨(some 37), .iaddr 1 (.t 23) (.t 28), none, 265728, 14, []⟩,
    ⟨none, .store 1 (.t 37) (.t 36), none, 265984, 15, []⟩])
  (.reg [⟨(some 38), .mv (.t 0), none, 327680, 0, []⟩,
    ⟨(some 39), .mv (.t 3), none, 327936, 1, []⟩,
    ⟨(some 40), .mv (.t 1), none, 328192, 2, []⟩,
    ⟨(some 41), .bin .mul (.t 39) (.t 40), none, 328448, 3, []⟩,
    ⟨(some 42), .mv (.t 8), none, 328704, 4, []⟩,
    ⟨(some 43), .bin .add (.t 41) (.t 42), none, 328960, 5, []⟩,
    ⟨(some 44), .mv (.t 9), none, 329216, 6, []⟩,
    ⟨(some 45), .iaddr 1 (.t 38) (.t 43), none, 329472, 7, []⟩,
    ⟨none, .store 1 (.t 45) (.t 44), none, 329728, 8, []⟩]))))
  (.reg [⟨(some 13), .mv (.t 8), none, 131072, 0, []⟩,
    ⟨(some 14), .bin .add (.t 13) (.k (.int .i64 1)), none, 131328, 1, []⟩,
    ⟨(some 8), .mv (.t 14), none, 131584, 2, []⟩])))))⟩
/-- loop.example/g00849/spec.l03Clear -/
def F176 : F := ⟨4, 126, [],
 .seq (.reg [⟨(some 13), .mv (.t 0), none, 0, 0, []⟩,
   ⟨(some 14), .mv (.t 3), none, 256, 1, []⟩,
   ⟨(some 15), .mv (.t 2), none, 512, 2, []⟩,
   ⟨(some 16), .bin .mul (.t 14) (.t 15), none, 768, 3, []⟩,
   ⟨(some 17), .mv (.t 3), none, 1024, 4, []⟩,
   ⟨(some 18), .bin .add (.t 16) (.t 17), none, 1280, 5, []⟩,
   ⟨(some 19), .iaddr 1 (.t 13) (.t 18), none, 1536, 6, []⟩,
   ⟨(some 20), .load 1 false (.t 19), none, 1792, 7, []⟩,
   ⟨(some 21), .call 152 [(.t 20)] true, none, 2048, 8, []⟩,
   ⟨(some 8), .mv (.t 21), none, 2304, 9, []⟩])
 (.seq (.seq (.reg [⟨(some 9), .mv (.k (.int .i64 0)), none, 65536, 0, []⟩])
 (.block 0 (.loop [0, 1, 2, 3, 8, 9] [922625, 988161]
  (.seq (.seq (.reg [⟨(some 22), .mv (.t 9), none, 131072, 0, []⟩,
    ⟨(some 23), .mv (.t 2), none, 131328, 1, []⟩,
    ⟨(some 24), .bin .lss (.t 22) (.t 23), none, 131584, 2, []⟩])
  (.cond (.t 24)
   (.skip)
   (.exit 0)))
  (.seq (.block 1 (.seq (.reg [⟨(some 27), .mv (.t 0), none, 262144, 0, []⟩,
    ⟨(some 28), .mv (.t 3), none, 262400, 1, []⟩,
    ⟨(some 29), .mv (.t 2), none, 262656, 2, []⟩,
    ⟨(some 30), .bin .mul (.t 28) (.t 29), none, 262912, 3, []⟩,
    ⟨(some 31), .mv (.t 9), none, 263168, 4, []⟩,
    ⟨(some 32), .bin .add (.t 30) (.t 31), none, 263424, 5, []⟩,
    ⟨(some 33), .mv (.t 8), none, 263680, 6, []⟩,
    ⟨(some 34), .mv (.t 0), none, 263936, 7, []⟩,
    ⟨(some 35), .mv (.t 3), none, 264192, 8, []⟩,
    ⟨(some 36), .mv (.t 2), none, 264448, 9, []⟩,
    ⟨(some 37), .bin .mul (.t 35) (.t 36), none, 264704, 10, []⟩,
    ⟨(some 38), .mv (.t 9), none, 264960, 11, []⟩,
    ⟨(some 39), .bin .add (.t 37) (.t 38), none, 265216, 12, []⟩,
    ⟨(some 40), .iaddr 1 (.t 34) (.t 39), none, 265472, 13, []⟩,
    ⟨(some 41), .load 1 false (.t 40), none, 265728, 14, []⟩,
    ⟨(some 42), .call 151 [(.t 33), (.t 41)] true, none, 265984, 15, []⟩,
    ⟨(some 43), .iaddr 1 (.t 27) (.t 32), none, 266240, 16, []⟩,
    ⟨none, .store 1 (.t 43) (.t 42), none, 266496, 17, []⟩])
  (.reg [⟨(some 44), .mv (.t 1), none, 327680, 0, []⟩,
    ⟨(some 45), .mv (.t 3), none, 327936, 1, []⟩,
    ⟨(some 46), .mv (.t 2), none, 328192, 2, []⟩,
    ⟨(some 47), .bin .mul (.t 45) (.t 46), none, 328448, 3, []⟩,
    ⟨(some 48), .mv (.t 9), none, 328704, 4, []⟩,
    ⟨(some 49), .bin .add (.t 47) (.t 48), none, 328960, 5, []⟩,
    ⟨(some 50), .mv (.t 8), none, 329216, 6, []⟩,
    ⟨(some 51), .mv (.t 1), none, 329472, 7, []⟩,
    ⟨(some 52), .mv (.t 3), none, 329728, 8, []⟩,
    ⟨(some 53), .mv (.t 2), none, 329984, 9, []⟩,
    ⟨(some 54), .bin .mul (.t 52) (.t 53), none, 330240, 10, []⟩,
    ⟨(some 55), .mv (.t 9), none, 330496, 11, []⟩,
    ⟨(some 56), .bin .add (.t 54) (.t 55), none, 330752, 12, []⟩,
    ⟨(some 57), .iaddr 1 (.t 51) (.t 56), none, 331008, 13, []⟩,
    ⟨(some 58), .load 1 false (.t 57), none, 331264, 14, []⟩,
    ⟨(some 59), .call 151 [(.t 50), (.t 58)] true, none, 331520, 15, []⟩,
    ⟨(some 60), .iaddr 1 (.t 44) (.t 49), none, 331776, 16, []⟩,
    ⟨none, .store 1 (.t 60) (.t 59), none, 332032, 17, []⟩])))
  (.reg [⟨(some 25), .mv (.t 9), none, 196608, 0, []⟩,
    ⟨(some 26), .bin .add (.t 25) (.k (.int .i64 1)), none, 196864, 1, []⟩,
    ⟨(some 9), .mv (.t 26), none, 197120, 2, []⟩]))))))
 (.seq (.reg [⟨(some 10), .mv (.k (.int .i64 0)), none, 393216, 0, []⟩])
 (.block 2 (.loop [0, 1, 2, 3, 10] [266497, 332033]
  (.seq (.seq (.reg [⟨(some 61), .mv (.t 10), none, 458752, 0, []⟩,
    ⟨(some 62), .mv (.t 2), none, 459008, 1, []⟩,
    ⟨(some 63), .bin .lss (.t 61) (.t 62), none, 459264, 2, []⟩])
  (.cond (.t 63)
   (.skip)
   (.exit 2)))
  (.seq (.block 3 (.seq (.reg [⟨(some 66), .mv (.t 0), none, 589824, 0, []⟩,
    ⟨(some 67), .mv (.t 10), none, 590080, 1, []⟩,
    ⟨(some 68), .mv (.t 2), none, 590336, 2, []⟩,
    ⟨(some 69), .bin .mul (.t 67) (.t 68), none, 590592, 3, []⟩,
    ⟨(some 70), .mv (.t 3), none, 590848, 4, []⟩,
    ⟨(some 71), .bin .add (.t 69) (.t 70), none, 591104, 5, []⟩,
    ⟨(some 72), .iaddr 1 (.t 66) (.t 71), none, 591360, 6, []⟩,
    ⟨(some 73), .load 1 false (.t 72), none, 591616, 7, []⟩,
    ⟨(some 11), .mv (.t 73), none, 591872, 8, []⟩])
  (.seq (.seq (.reg [⟨(some 74), .mv (.t 10), none, 655360, 0, []⟩,
    ⟨(some 75), .mv (.t 3), none, 655616, 1, []⟩,
    ⟨(some 76), .bin .eql (.t 74) (.t 75), none, 655872, 2, []⟩,
    ⟨(some 77), .mv (.t 76), none, 656128, 3, []⟩,
    ⟨(some 78), .mv (.t 11), (some (some 77, false)), 656384, 4, []⟩,
    ⟨(some 79), .bin .eql (.t 78) (.k (.int .i64 0)), (some (some 77, false)), 656640, 5, []⟩,
    ⟨(some 80), .pick (.t 77) (.k (.bool true)) (.t 79), none, 656896, 6, []⟩])
  (.cond (.t 80)
   (.exit 3)
   (.skip)))
  (.seq (.reg [⟨(some 12), .mv (.k (.int .i64 0)), none, 720896, 0, []⟩])
  (.block 4 (.loop [0, 1, 2, 3, 10, 11, 12] [266497, 332033]
   (.seq (.seq (.reg [⟨(some 81), .mv (.t 12), none, 786432, 0, []⟩,
     ⟨(some 82), .mv (.t 2), none, 786688, 1, []⟩,
     ⟨(some 83), .bin .lss (.t 81) (.t 82), none, 786944, 2, []⟩])
   (.cond (.t 83)
    (.skip)
    (.exit 4)))
   (.seq (.block 5 (.seq (.reg [⟨(some 86), .mv (.t 0), none, 917504, 0, []⟩,
     ⟨(some 87), .mv (.t 10), none, 917760, 1, []⟩,
     ⟨(some 88), .mv (.t 2), none, 918016, 2, []⟩,
     ⟨(some 89), .bin .mul (.t 87) (.t 88), none, 918272, 3, []⟩,
     ⟨(some 90), .mv (.t 12), none, 918528, 4, []⟩,
     ⟨(some 91), .bin .add (.t 89) (.t 90), none, 918784, 5, []⟩,
     ⟨(some 92), .iaddr 1 (.t 86) (.t 91), none, 919040, 6, []⟩,
     ⟨(some 93), .load 1 false (.t 92), none, 919296, 7, []⟩,
     ⟨(some 94), .mv (.t 11), none, 919552, 8, []⟩,
     ⟨(some 95), .mv (.t 0), none, 919808, 9, []⟩,
     ⟨(some 96), .mv (.t 3), none, 920064, 10, []⟩,
     ⟨(some 97), .mv (.t 2), none, 920320, 11, []⟩,
     ⟨(some 98), .bin .mul (.t 96) (.t 97), none, 920576, 12, []⟩,
     ⟨(some 99), .mv (.t 12), none, 920832, 13, []⟩,
     ⟨(some 100), .bin .add (.t 98) (.t 99), none, 921088, 14, []⟩,
     ⟨(some 101), .iaddr 1 (.t 95) (.t 100), none, 921344, 15, []⟩,
     ⟨(some 102), .load 1 false (.t 101), none, 921600, 16, []⟩,
     ⟨(some 103), .call 151 [(.t 94), (.t 102)] true, none, 921856, 17, []⟩,
     ⟨(some 104), .bin .xor (.t 93) (.t 103), none, 922112, 18, []⟩,
     ⟨(some 105), .iaddr 1 (.t 86) (.t 91), none, 922368, 19, []⟩,
     ⟨none, .store 1 (.t 105) (.t 104), none, 922624, 20, []⟩])
   (.reg [⟨(some 106), .mv (.t 1), none, 983040, 0, []⟩,
     ⟨(some 107), .mv (.t 10), none, 983296, 1, []⟩,
     ⟨(some 108), .mv (.t 2), none, 983552, 2, []⟩,
     ⟨(some 109), .bin .mul (.t 107) (.t 108), none, 983808, 3, []⟩,
     ⟨(some 110), .mv (.t 12), none, 984064, 4, []⟩,
     ⟨(some 111), .bin .add (.t 109) (.t 110), none, 984320, 5, []⟩,
     ⟨(some 112), .iaddr 1 (.t 106) (.t 111), none, 984576, 6, []⟩,
     ⟨(some 113), .load 1 false (.t 112), none, 984832, 7, []⟩,
     ⟨(some 114), .mv (.t 11), none, 985088, 8, []⟩,
     ⟨(some 115), .mv (.t 1), none, 985344, 9, []⟩,
     ⟨(some 116), .mv (.t 3), none, 985600, 10, []⟩,
     ⟨(some 117), .mv (.t 2), none, 985856, 11, []⟩,
     ⟨(some 118), .bin .mul (.t 116) (.t 117), none, 986112, 12, []⟩,
     ⟨(some 119), .mv (.t 12), none, 986368, 13, []⟩,
     ⟨(some 120), .bin .add (.t 118) (.t 119), none, 986624, 14, []⟩,
     ⟨(some 121), .iaddr 1 (.t 115) (.t 120), none, 986880, 15, []⟩,
     ⟨(some 122), .load 1 false (.t 121), none, 987136, 16, []⟩,
     ⟨(some 123), .call 151 [(.t 114), (.t 122)] true, none, 987392, 17, []⟩,
     ⟨(some 124), .bin .xor (.t 113) (.t 123), none, 987648, 18, []⟩,
     ⟨(some 125), .iaddr 1 (.t 106) (.t 111), none, 987904, 19, []⟩,
     ⟨none, .store 1 (.t 125) (.t 124), none, 988160, 20, []⟩])))
   (.reg [⟨(some 84), .mv (.t 12), none, 851968, 0, []⟩,
     ⟨(some 85), .bin .add (.t 84) (.k (.int .i64 1)), none, 852224, 1, []⟩,
     ⟨(some 12), .mv (.t 85), none, 852480, 2, []⟩])))))))))
  (.reg [⟨(some 64), .mv (.t 10), none, 524288, 0, []⟩,
    ⟨(some 65), .bin .add (.t 64) (.k (.int .i64 1)), none, 524544, 1, []⟩,
    ⟨(some 10), .mv (.t 65), none, 524800, 2, []⟩])))))))⟩
def fns : Nat → Option F
  | 3 => some F3
  | 4 => some F4
  | 6 => some F6
  | 7 => some F7
  | 9 => some F9
  | 13 => some F13
  | 14 => some F14
  | 15 => some F15
  | 16 => some F16
  | 17 => some F17
  | 18 => some F18
  | 19 => some F19
  | 20 => some F20
  | 21 => some F21
  | 22 => some F22
  | 23 => some F23
  | 26 => some F26
  | 32 => some F32
  | 33 => some F33
  | 34 => some F34
  | 35 => some F35
  | 36 => some F36
  | 37 => some F37
  | 38 => some F38
  | 39 => some F39
  | 40 => some F40
  | 41 => some F41
  | 42 => some F42
  | 43 => some F43
  | 44 => some F44
  | 49 => some F49
  | 50 => some F50
  | 51 => some F51
  | 52 => some F52
  | 53 => some F53
  | 55 => some F55
  | 56 => some F56
  | 64 => some F64
  | 65 => some F65
  | 66 => some F66
  | 67 => some F67
  | 68 => some F68
  | 69 => some F69
  | 70 => some F70
  | 71 => some F71
  | 72 => some F72
  | 73 => some F73
  | 74 => some F74
  | 75 => some F75
  | 76 => some F76
  | 77 => some F77
  | 78 => some F78
  | 81 => some F81
  | 82 => some F82
  | 87 => some F87
  | 88 => some F88
  | 89 => some F89
  | 90 => some F90
  | 91 => some F91
  | 92 => some F92
  | 93 => some F93
  | 94 => some F94
  | 95 => some F95
  | 96 => some F96
  | 97 => some F97
  | 99 => some F99
  | 102 => some F102
  | 106 => some F106
  | 115 => some F115
  | 116 => some F116
  | 117 => some F117
  | 118 => some F118
  | 119 => some F119
  | 120 => some F120
  | 121 => some F121
  | 122 => some F122
  | 124 => some F124
  | 127 => some F127
  | 128 => some F128
  | 129 => some F129
  | 130 => some F130
  | 131 => some F131
  | 132 => some F132
  | 133 => some F133
  | 134 => some F134
  | 135 => some F135
  | 136 => some F136
  | 140 => some F140
  | 145 => some F145
  | 148 => some F148
  | 149 => some F149
  | 150 => some F150
  | 151 => some F151
  | 152 => some F152
  | 157 => some F157
  | 158 => some F158
  | 160 => some F160
  | 161 => some F161
  | 162 => some F162
  | 163 => some F163
  | 164 => some F164
  | 165 => some F165
  | 166 => some F166
  | 171 => some F171
  | 173 => some F173
  | 174 => some F174
  | 175 => some F175
  | 176 => some F176
  | _ => none
def nats : Nat → Option (List AV → Option (AV × List Blk))
  | 98 => some natJoin
  | 123 => some natRepeat
  | _ => none
def code : Prog := ⟨fns, md, nats⟩
theorem nat98 (k : Nat) (args : List AV) (E : List Heap) (v : AV) (bs : List Blk) (h : natJoin args = some (v, bs)) : call code (k + 1) 98 args E = some ⟨v, bs, E⟩ := call_nat rfl h
theorem nat123 (k : Nat) (args : List AV) (E : List Heap) (v : AV) (bs : List Blk) (h : natRepeat args = some (v, bs)) : call code (k + 1) 123 args E = some ⟨v, bs, E⟩ := call_nat rfl h
theorem fn3 : code.fn 3 = some F3 := rfl
theorem fn4 : code.fn 4 = some F4 := rfl
theorem fn6 : code.fn 6 = some F6 := rfl
theorem fn7 : code.fn 7 = some F7 := rfl
theorem fn9 : code.fn 9 = some F9 := rfl
theorem fn13 : code.fn 13 = some F13 := rfl
theorem fn14 : code.fn 14 = some F14 := rfl
theorem fn15 : code.fn 15 = some F15 := rfl
theorem fn16 : code.fn 16 = some F16 := rfl
theorem fn17 : code.fn 17 = some F17 := rfl
theorem fn18 : code.fn 18 = some F18 := rfl
theorem fn19 : code.fn 19 = some F19 := rfl
theorem fn20 : code.fn 20 = some F20 := rfl
theorem fn21 : code.fn 21 = some F21 := rfl
theorem fn22 : code.fn 22 = some F22 := rfl
theorem fn23 : code.fn 23 = some F23 := rfl
theorem fn26 : code.fn 26 = some F26 := rfl
theorem fn32 : code.fn 32 = some F32 := rfl
theorem fn33 : code.fn 33 = some F33 := rfl
theorem fn34 : code.fn 34 = some F34 := rfl
theorem fn35 : code.fn 35 = some F35 := rfl
theorem fn36 : code.fn 36 = some F36 := rfl
theorem fn37 : code.fn 37 = some F37 := rfl
theorem fn38 : code.fn 38 = some F38 := rfl
theorem fn39 : code.fn 39 = some F39 := rfl
theorem fn40 : code.fn 40 = some F40 := rfl
theorem fn41 : code.fn 41 = some F41 := rfl
theorem fn42 : code.fn 42 = some F42 := rfl
theorem fn43 : code.fn 43 = some F43 := rfl
theorem fn44 : code.fn 44 = some F44 := rfl
theorem fn49 : code.fn 49 = some F49 := rfl
theorem fn50 : code.fn 50 = some F50 := rfl
theorem fn51 : code.fn 51 = some F51 := rfl
theorem fn52 : code.fn 52 = some F52 := rfl
theorem fn53 : code.fn 53 = some F53 := rfl
theorem fn55 : code.fn 55 = some F55 := rfl
theorem fn56 : code.fn 56 = some F56 := rfl
theorem fn64 : code.fn 64 = some F64 := rfl
theorem fn65 : code.fn 65 = some F65 := rfl
theorem fn66 : code.fn 66 = some F66 := rfl
theorem fn67 : code.fn 67 = some F67 := rfl
theorem fn68 : code.fn 68 = some F68 := rfl
theorem fn69 : code.fn 69 = some F69 := rfl
theorem fn70 : code.fn 70 = some F70 := rfl
theorem fn71 : code.fn 71 = some F71 := rfl
theorem fn72 : code.fn 72 = some F72 := rfl
theorem fn73 : code.fn 73 = some F73 := rfl
theorem fn74 : code.fn 74 = some F74 := rfl
theorem fn75 : code.fn 75 = some F75 := rfl
theorem fn76 : code.fn 76 = some F76 := rfl
theorem fn77 : code.fn 77 = some F77 := rfl
theorem fn78 : code.fn 78 = some F78 := rfl
theorem fn81 : code.fn 81 = some F81 := rfl
theorem fn82 : code.fn 82 = some F82 := rfl
theorem fn87 : code.fn 87 = some F87 := rfl
theorem fn88 : code.fn 88 = some F88 := rfl
theorem fn89 : code.fn 89 = some F89 := rfl
theorem fn90 : code.fn 90 = some F90 := rfl
theorem fn91 : code.fn 91 = some F91 := rfl
theorem fn92 : code.fn 92 = some F92 := rfl
theorem fn93 : code.fn 93 = some F93 := rfl
theorem fn94 : code.fn 94 = some F94 := rfl
theorem fn95 : code.fn 95 = some F95 := rfl
theorem fn96 : code.fn 96 = some F96 := rfl
theorem fn97 : code.fn 97 = some F97 := rfl
theorem fn99 : code.fn 99 = some F99 := rfl
theorem fn102 : code.fn 102 = some F102 := rfl
theorem fn106 : code.fn 106 = some F106 := rfl
theorem fn115 : code.fn 115 = some F115 := rfl
theorem fn116 : code.fn 116 = some F116 := rfl
theorem fn117 : code.fn 117 = some F117 := rfl
theorem fn118 : code.fn 118 = some F118 := rfl
theorem fn119 : code.fn 119 = some F119 := rfl
theorem fn120 : code.fn 120 = some F120 := rfl
theorem fn121 : code.fn 121 = some F121 := rfl
theorem fn122 : code.fn 122 = some F122 := rfl
theorem fn124 : code.fn 124 = some F124 := rfl
theorem fn127 : code.fn 127 = some F127 := rfl
theorem fn128 : code.fn 128 = some F128 := rfl
theorem fn129 : code.fn 129 = some F129 := rfl
theorem fn130 : code.fn 130 = some F130 := rfl
theorem fn131 : code.fn 131 = some F131 := rfl
theorem fn132 : code.fn 132 = some F132 := rfl
theorem fn133 : code.fn 133 = some F133 := rfl
theorem fn134 : code.fn 134 = some F134 := rfl
theorem fn135 : code.fn 135 = some F135 := rfl
theorem fn136 : code.fn 136 = some F136 := rfl
theorem fn140 : code.fn 140 = some F140 := rfl
theorem fn145 : code.fn 145 = some F145 := rfl
theorem fn148 : code.fn 148 = some F148 := rfl
theorem fn149 : code.fn 149 = some F149 := rfl
theorem fn150 : code.fn 150 = some F150 := rfl
theorem fn151 : code.fn 151 = some F151 := rfl
theorem fn152 : code.fn 152 = some F152 := rfl
theorem fn157 : code.fn 157 = some F157 := rfl
theorem fn158 : code.fn 158 = some F158 := rfl
theorem fn160 : code.fn 160 = some F160 := rfl
theorem fn161 : code.fn 161 = some F161 := rfl
theorem fn162 : code.fn 162 = some F162 := rfl
theorem fn163 : code.fn 163 = some F163 := rfl
theorem fn164 : code.fn 164 = some F164 := rfl
theorem fn165 : code.fn 165 = some F165 := rfl
theorem fn166 : code.fn 166 = some F166 := rfl
theorem fn171 : code.fn 171 = some F171 := rfl
theorem fn173 : code.fn 173 = some F173 := rfl
theorem fn174 : code.fn 174 = some F174 := rfl
theorem fn175 : code.fn 175 = some F175 := rfl
theorem fn176 : code.fn 176 = some F176 := rfl
theorem rcall98 {O : Oracle} {st : St} {Q : Ex → St → Prop} {fs : List Fr} {d : Option Nat} {b i : Nat} {ap : List X} {r : List IOp} (xs : List X) (fl : Bool) : RunO O code.md (⟨d, .call 98 xs fl, none, b, i, ap⟩ :: r) fs st Q = (quietOk st (.call 98 xs fl) ap = true ∧ RunQ O code.md (callVal O st b 98 (evalXs st xs) fl) d r fs st Q) := R_call 98 xs fl rfl
theorem rcall123 {O : Oracle} {st : St} {Q : Ex → St → Prop} {fs : List Fr} {d : Option Nat} {b i : Nat} {ap : List X} {r : List IOp} (xs : List X) (fl : Bool) : RunO O code.md (⟨d, .call 123 xs fl, none, b, i, ap⟩ :: r) fs st Q = (quietOk st (.call 123 xs fl) ap = true ∧ RunQ O code.md (callVal O st b 123 (evalXs st xs) fl) d r fs st Q) := R_call 123 xs fl rfl
theorem rcall3 {O : Oracle} {st : St} {Q : Ex → St → Prop} {fs : List Fr} {d : Option Nat} {b i : Nat} {ap : List X} {r : List IOp} (xs : List X) (fl : Bool) : RunO O code.md (⟨d, .call 3 xs fl, none, b, i, ap⟩ :: r) fs st Q = (quietOk st (.call 3 xs fl) ap = true ∧ RunQ O code.md (callVal O st b 3 (evalXs st xs) fl) d r fs st Q) := R_call 3 xs fl rfl
theorem rcall4 {O : Oracle} {st : St} {Q : Ex → St → Prop} {fs : List Fr} {d : Option Nat} {b i : Nat} {ap : List X} {r : List IOp} (xs : List X) (fl : Bool) : RunO O code.md (⟨d, .call 4 xs fl, none, b, i, ap⟩ :: r) fs st Q = (quietOk st (.call 4 xs fl) ap = true ∧ RunQ O code.md (callVal O st b 4 (evalXs st xs) fl) d r fs st Q) := R_call 4 xs fl rfl
theorem rcall6 {O : Oracle} {st : St} {Q : Ex → St → Prop} {fs : List Fr} {d : Option Nat} {b i : Nat} {ap : List X} {r : List IOp} (xs : List X) (fl : Bool) : RunO O code.md (⟨d, .call 6 xs fl, none, b, i, ap⟩ :: r) fs st Q = (quietOk st (.call 6 xs fl) ap = true ∧ RunQ O code.md (callVal O st b 6 (evalXs st xs) fl) d r fs st Q) := R_call 6 xs fl rfl
theorem rcall7 {O : Oracle} {st : St} {Q : Ex → St → Prop} {fs : List Fr} {d : Option Nat} {b i : Nat} {ap : List X} {r : List IOp} (xs : List X) (fl : Bool) : RunO O code.md (⟨d, .call 7 xs fl, none, b, i, ap⟩ :: r) fs st Q = (quietOk st (.call 7 xs fl) ap = true ∧ RunQ O code.md (callVal O st b 7 (evalXs st xs) fl) d r fs st Q) := R_call 7 xs fl rfl
theorem rcall9 {O : Oracle} {st : St} {Q : Ex → St → Prop} {fs : List Fr} {d : Option Nat} {b i : Nat} {ap : List X} {r : List IOp} (xs : List X) (fl : Bool) : RunO O code.md (⟨d, .call 9 xs fl, none, b, i, ap⟩ :: r) fs st Q = (quietOk st (.call 9 xs fl) ap = true ∧ RunQ O code.md (callVal O st b 9 (evalXs st xs) fl) d r fs st Q) := R_call 9 xs fl rfl
theorem rcall13 {O : Oracle} {st : St} {Q : Ex → St → Prop} {fs : List Fr} {d : Option Nat} {b i : Nat} {ap : List X} {r : List IOp} (xs : List X) (fl : Bool) : RunO O code.md (⟨d, .call 13 xs fl, none, b, i, ap⟩ :: r) fs st Q = (quietOk st (.call 13 xs fl) ap = true ∧ RunQ O code.md (callVal O st b 13 (evalXs st xs) fl) d r fs st Q) := R_call 13 xs fl rfl
theorem rcall14 {O : Oracle} {st : St} {Q : Ex → St → Prop} {fs : List Fr} {d : Option Nat} {b i : Nat} {ap : List X} {r : List IOp} (xs : List X) (fl : Bool) : RunO O code.md (⟨d, .call 14 xs fl, none, b, i, ap⟩ :: r) fs st Q = (quietOk st (.call 14 xs fl) ap = true ∧ RunQ O code.md (callVal O st b 14 (evalXs st xs) fl) d r fs st Q) := R_call 14 xs fl rfl
theorem rcall15 {O : Oracle} {st : St} {Q : Ex → St → Prop} {fs : List Fr} {d : Option Nat} {b i : Nat} {ap : List X} {r : List IOp} (xs : List X) (fl : Bool) : RunO O code.md (⟨d, .call 15 xs fl, none, b, i, ap⟩ :: r) fs st Q = (quietOk st (.call 15 xs fl) ap = true ∧ RunQ O code.md (callVal O st b 15 (evalXs st xs) fl) d r fs st Q) := R_call 15 xs fl rfl
theorem rcall16 {O : Oracle} {st : St} {Q : Ex → St → Prop} {fs : List Fr} {d : Option Nat} {b i : Nat} {ap : List X} {r : List IOp} (xs : List X) (fl : Bool) : RunO O code.md (⟨d, .call 16 xs fl, none, b, i, ap⟩ :: r) fs st Q = (quietOk st (.call 16 xs fl) ap = true ∧ RunQ O code.md (callVal O st b 16 (evalXs st xs) fl) d r fs st Q) := R_call 16 xs fl rfl
theorem rcall17 {O : Oracle} {st : St} {Q : Ex → St → Prop} {fs : List Fr} {d : Option Nat} {b i : Nat} {ap : List X} {r : List IOp} (xs : List X) (fl : Bool) : RunO O code.md (⟨d, .call 17 xs fl, none, b, i, ap⟩ :: r) fs st Q = (quietOk st (.call 17 xs fl) ap = true ∧ RunQ O code.md (callVal O st b 17 (evalXs st xs) fl) d r fs st Q) := R_call 17 xs fl rfl
theorem rcall18 {O : Oracle} {st : St} {Q : Ex → St → Prop} {fs : List Fr} {d : Option Nat} {b i : Nat} {ap : List X} {r : List IOp} (xs : List X) (fl : Bool) : RunO O code.md (⟨d, .call 18 xs fl, none, b, i, ap⟩ :: r) fs st Q = (quietOk st (.call 18 xs fl) ap = true ∧ RunQ O code.md (callVal O st b 18 (evalXs st xs) fl) d r fs st Q) := R_call 18 xs fl rfl
theorem rcall19 {O : Oracle} {st : St} {Q : Ex → St → Prop} {fs : List Fr} {d : Option Nat} {b i : Nat} {ap : List X} {r : List IOp} (xs : List X) (fl : Bool) : RunO O code.md (⟨d, .call 19 xs fl, none, b, i, ap⟩ :: r) fs st Q = (quietOk st (.call 19 xs fl) ap = true ∧ RunQ O code.md (callVal O st b 19 (evalXs st xs) fl) d r fs st Q) := R_call 19 xs fl rfl
theorem rcall20 {O : Oracle} {st : St} {Q : Ex → St → Prop} {fs : List Fr} {d : Option Nat} {b i : Nat} {ap : List X} {r : List IOp} (xs : List X) (fl : Bool) : RunO O code.md (⟨d, .call 20 xs fl, none, b, i, ap⟩ :: r) fs st Q = (quietOk st (.call 20 xs fl) ap = true ∧ RunQ O code.md (callVal O st b 20 (evalXs st xs) fl) d r fs st Q) := R_call 20 xs fl rfl
theorem rcall21 {O : Oracle} {st : St} {Q : Ex → St → Prop} {fs : List Fr} {d : Option Nat} {b i : Nat} {ap : List X} {r : List IOp} (xs : List X) (fl : Bool) : RunO O code.md (⟨d, .call 21 xs fl, none, b, i, ap⟩ :: r) fs st Q = ((apartOk st (.call 21 xs fl) ap && keyedOk st ap) = true ∧ RunW O code.md (callRef O st b 21 (evalXs st xs) fl) d r fs Q) := R_callr 21 xs fl rfl
theorem rcall22 {O : Oracle} {st : St} {Q : Ex → St → Prop} {fs : List Fr} {d : Option Nat} {b i : Nat} {ap : List X} {r : List IOp} (xs : List X) (fl : Bool) : RunO O code.md (⟨d, .call 22 xs fl, none, b, i, ap⟩ :: r) fs st Q = (quietOk st (.call 22 xs fl) ap = true ∧ RunQ O code.md (callVal O st b 22 (evalXs st xs) fl) d r fs st Q) := R_call 22 xs fl rfl
theorem rcall23 {O : Oracle} {st : St} {Q : Ex → St → Prop} {fs : List Fr} {d : Option Nat} {b i : Nat} {ap : List X} {r : List IOp} (xs : List X) (fl : Bool) : RunO O code.md (⟨d, .call 23 xs fl, none, b, i, ap⟩ :: r) fs st Q = (quietOk st (.call 23 xs fl) ap = true ∧ RunQ O code.md (callVal O st b 23 (evalXs st xs) fl) d r fs st Q) := R_call 23 xs fl rfl
theorem rcall26 {O : Oracle} {st : St} {Q : Ex → St → Prop} {fs : List Fr} {d : Option Nat} {b i : Nat} {ap : List X} {r : List IOp} (xs : List X) (fl : Bool) : RunO O code.md (⟨d, .call 26 xs fl, none, b, i, ap⟩ :: r) fs st Q = (quietOk st (.call 26 xs fl) ap = true ∧ RunQ O code.md (callVal O st b 26 (evalXs st xs) fl) d r fs st Q) := R_call 26 xs fl rfl
theorem rcall32 {O : Oracle} {st : St} {Q : Ex → St → Prop} {fs : List Fr} {d : Option Nat} {b i : Nat} {ap : List X} {r : List IOp} (xs : List X) (fl : Bool) : RunO O code.md (⟨d, .call 32 xs fl, none, b, i, ap⟩ :: r) fs st Q = (quietOk st (.call 32 xs fl) ap = true ∧ RunQ O code.md (callVal O st b 32 (evalXs st xs) fl) d r fs st Q) := R_call 32 xs fl rfl
theorem rcall33 {O : Oracle} {st : St} {Q : Ex → St → Prop} {fs : List Fr} {d : Option Nat} {b i : Nat} {ap : List X} {r : List IOp} (xs : List X) (fl : Bool) : RunO O code.md (⟨d, .call 33 xs fl, none, b, i, ap⟩ :: r) fs st Q = (quietOk st (.call 33 xs fl) ap = true ∧ RunQ O code.md (callVal O st b 33 (evalXs st xs) fl) d r fs st Q) := R_call 33 xs fl rfl
theorem rcall34 {O : Oracle} {st : St} {Q : Ex → St → Prop} {fs : List Fr} {d : Option Nat} {b i : Nat} {ap : List X} {r : List IOp} (xs : List X) (fl : Bool) : RunO O code.md (⟨d, .call 34 xs fl, none, b, i, ap⟩ :: r) fs st Q = (quietOk st (.call 34 xs fl) ap = true ∧ RunQ O code.md (callVal O st b 34 (evalXs st xs) fl) d r fs st Q) := R_call 34 xs fl rfl
theorem rcall35 {O : Oracle} {st : St} {Q : Ex → St → Prop} {fs : List Fr} {d : Option Nat} {b i : Nat} {ap : List X} {r : List IOp} (xs : List X) (fl : Bool) : RunO O code.md (⟨d, .call 35 xs fl, none, b, i, ap⟩ :: r) fs st Q = (quietOk st (.call 35 xs fl) ap = true ∧ RunQ O code.md (callVal O st b 35 (evalXs st xs) fl) d r fs st Q) := R_call 35 xs fl rfl
theorem rcall36 {O : Oracle} {st : St} {Q : Ex → St → Prop} {fs : List Fr} {d : Option Nat} {b i : Nat} {ap : List X} {r : List IOp} (xs : List X) (fl : Bool) : RunO O code.md (⟨d, .call 36 xs fl, none, b, i, ap⟩ :: r) fs st Q = (quietOk st (.call 36 xs fl) ap = true ∧ RunQ O code.md (callVal O st b 36 (evalXs st xs) fl) d r fs st Q) := R_call 36 xs fl rfl
theorem rcall37 {O : Oracle} {st : St} {Q : Ex → St → Prop} {fs : List Fr} {d : Option Nat} {b i : Nat} {ap : List X} {r : List IOp} (xs : List X) (fl : Bool) : RunO O code.md (⟨d, .call 37 xs fl, none, b, i, ap⟩ :: r) fs st Q = (quietOk st (.call 37 xs fl) ap = true ∧ RunQ O code.md (callVal O st b 37 (evalXs st xs) fl) d r fs st Q) := R_call 37 xs fl rfl
theorem rcall38 {O : Oracle} {st : St} {Q : Ex → St → Prop} {fs : List Fr} {d : Option Nat} {b i : Nat} {ap : List X} {r : List IOp} (xs : List X) (fl : Bool) : RunO O code.md (⟨d, .call 38 xs fl, none, b, i, ap⟩ :: r) fs st Q = (quietOk st (.call 38 xs fl) ap = true ∧ RunQ O code.md (callVal O st b 38 (evalXs st xs) fl) d r fs st Q) := R_call 38 xs fl rfl
theorem rcall39 {O : Oracle} {st : St} {Q : Ex → St → Prop} {fs : List Fr} {d : Option Nat} {b i : Nat} {ap : List X} {r : List IOp} (xs : List X) (fl : Bool) : RunO O code.md (⟨d, .call 39 xs fl, none, b, i, ap⟩ :: r) fs st Q = ((apartOk st (.call 39 xs fl) ap && keyedOk st ap) = true ∧ RunW O code.md (callRef O st b 39 (evalXs st xs) fl) d r fs Q) := R_callr 39 xs fl rfl
theorem rcall40 {O : Oracle} {st : St} {Q : Ex → St → Prop} {fs : List Fr} {d : Option Nat} {b i : Nat} {ap : List X} {r : List IOp} (xs : List X) (fl : Bool) : RunO O code.md (⟨d, .call 40 xs fl, none, b, i, ap⟩ :: r) fs st Q = (quietOk st (.call 40 xs fl) ap = true ∧ RunQ O code.md (callVal O st b 40 (evalXs st xs) fl) d r fs st Q) := R_call 40 xs fl rfl
theorem rcall41 {O : Oracle} {st : St} {Q : Ex → St → Prop} {fs : List Fr} {d : Option Nat} {b i : Nat} {ap : List X} {r : List IOp} (xs : List X) (fl : Bool) : RunO O code.md (⟨d, .call 41 xs fl, none, b, i, ap⟩ :: r) fs st Q = (quietOk st (.call 41 xs fl) ap = true ∧ RunQ O code.md (callVal O st b 41 (evalXs st xs) fl) d r fs st Q) := R_call 41 xs fl rfl
theorem rcall42 {O : Oracle} {st : St} {Q : Ex → St → Prop} {fs : List Fr} {d : Option Nat} {b i : Nat} {ap : List X} {r : List IOp} (xs : List X) (fl : Bool) : RunO O code.md (⟨d, .call 42 xs fl, none, b, i, ap⟩ :: r) fs st Q = (quietOk st (.call 42 xs fl) ap = true ∧ RunQ O code.md (callVal O st b 42 (evalXs st xs) fl) d r fs st Q) := R_call 42 xs fl rfl
theorem rcall43 {O : Oracle} {st : St} {Q : Ex → St → Prop} {fs : List Fr} {d : Option Nat} {b i : Nat} {ap : List X} {r : List IOp} (xs : List X) (fl : Bool) : RunO O code.md (⟨d, .call 43 xs fl, none, b, i, ap⟩ :: r) fs st Q = (quietOk st (.call 43 xs fl) ap = true ∧ RunQ O code.md (callVal O st b 43 (evalXs st xs) fl) d r fs st Q) := R_call 43 xs fl rfl
theorem rcall44 {O : Oracle} {st : St} {Q : Ex → St → Prop} {fs : List Fr} {d : Option Nat} {b i : Nat} {ap : List X} {r : List IOp} (xs : List X) (fl : Bool) : RunO O code.md (⟨d, .call 44 xs fl, none, b, i, ap⟩ :: r) fs st Q = (quietOk st (.call 44 xs fl) ap = true ∧ RunQ O code.md (callVal O st b 44 (evalXs st xs) fl) d r fs st Q) := R_call 44 xs fl rfl
theorem rcall49 {O : Oracle} {st : St} {Q : Ex → St → Prop} {fs : List Fr} {d : Option Nat} {b i : Nat} {ap : List X} {r : List IOp} (xs : List X) (fl : Bool) : RunO O code.md (⟨d, .call 49 xs fl, none, b, i, ap⟩ :: r) fs st Q = (quietOk st (.call 49 xs fl) ap = true ∧ RunQ O code.md (callVal O st b 49 (evalXs st xs) fl) d r fs st Q) := R_call 49 xs fl rfl
theorem rcall50 {O : Oracle} {st : St} {Q : Ex → St → Prop} {fs : List Fr} {d : Option Nat} {b i : Nat} {ap : List X} {r : List IOp} (xs : List X) (fl : Bool) : RunO O code.md (⟨d, .call 50 xs fl, none, b, i, ap⟩ :: r) fs st Q = (quietOk st (.call 50 xs fl) ap = true ∧ RunQ O code.md (callVal O st b 50 (evalXs st xs) fl) d r fs st Q) := R_call 50 xs fl rfl
theorem rcall51 {O : Oracle} {st : St} {Q : Ex → St → Prop} {fs : List Fr} {d : Option Nat} {b i : Nat} {ap : List X} {r : List IOp} (xs : List X) (fl : Bool) : RunO O code.md (⟨d, .call 51 xs fl, none, b, i, ap⟩ :: r) fs st Q = (quietOk st (.call 51 xs fl) ap = true ∧ RunQ O code.md (callVal O st b 51 (evalXs st xs) fl) d r fs st Q) := R_call 51 xs fl rfl
theorem rcall52 {O : Oracle} {st : St} {Q : Ex → St → Prop} {fs : List Fr} {d : Option Nat} {b i : Nat} {ap : List X} {r : List IOp} (xs : List X) (fl : Bool) : RunO O code.md (⟨d, .call 52 xs fl, none, b, i, ap⟩ :: r) fs st Q = (quietOk st (.call 52 xs fl) ap = true ∧ RunQ O code.md (callVal O st b 52 (evalXs st xs) fl) d r fs st Q) := R_call 52 xs fl rfl
theorem rcall53 {O : Oracle} {st : St} {Q : Ex → St → Prop} {fs : List Fr} {d : Option Nat} {b i : Nat} {ap : List X} {r : List IOp} (xs : List X) (fl : Bool) : RunO O code.md (⟨d, .call 53 xs fl, none, b, i, ap⟩ :: r) fs st Q = (quietOk st (.call 53 xs fl) ap = true ∧ RunQ O code.md (callVal O st b 53 (evalXs st xs) fl) d r fs st Q) := R_call 53 xs fl rfl
theorem rcall55 {O : Oracle} {st : St} {Q : Ex → St → Prop} {fs : List Fr} {d : Option Nat} {b i : Nat} {ap : List X} {r : List IOp} (xs : List X) (fl : Bool) : RunO O code.md (⟨d, .call 55 xs fl, none, b, i, ap⟩ :: r) fs st Q = (quietOk st (.call 55 xs fl) ap = true ∧ RunQ O code.md (callVal O st b 55 (evalXs st xs) fl) d r fs st Q) := R_call 55 xs fl rfl
theorem rcall56 {O : Oracle} {st : St} {Q : Ex → St → Prop} {fs : List Fr} {d : Option Nat} {b i : Nat} {ap : List X} {r : List IOp} (xs : List X) (fl : Bool) : RunO O code.md (⟨d, .call 56 xs fl, none, b, i, ap⟩ :: r) fs st Q = (quietOk st (.call 56 xs fl) ap = true ∧ RunQ O code.md (callVal O st b 56 (evalXs st xs) fl) d r fs st Q) := R_call 56 xs fl rfl
theorem rcall64 {O : Oracle} {st : St} {Q : Ex → St → Prop} {fs : List Fr} {d : Option Nat} {b i : Nat} {ap : List X} {r : List IOp} (xs : List X) (fl : Bool) : RunO O code.md (⟨d, .call 64 xs fl, none, b, i, ap⟩ :: r) fs st Q = (quietOk st (.call 64 xs fl) ap = true ∧ RunQ O code.md (callVal O st b 64 (evalXs st xs) fl) d r fs st Q) := R_call 64 xs fl rfl
theorem rcall65 {O : Oracle} {st : St} {Q : Ex → St → Prop} {fs : List Fr} {d : Option Nat} {b i : Nat} {ap : List X} {r : List IOp} (xs : List X) (fl : Bool) : RunO O code.md (⟨d, .call 65 xs fl, none, b, i, ap⟩ :: r) fs st Q = (quietOk st (.call 65 xs fl) ap = true ∧ RunQ O code.md (callVal O st b 65 (evalXs st xs) fl) d r fs st Q) := R_call 65 xs fl rfl
theorem rcall66 {O : Oracle} {st : St} {Q : Ex → St → Prop} {fs : List Fr} {d : Option Nat} {b i : Nat} {ap : List X} {r : List IOp} (xs : List X) (fl : Bool) : RunO O code.md (⟨d, .call 66 xs fl, none, b, i, ap⟩ :: r) fs st Q = (quietOk st (.call 66 xs fl) ap = true ∧ RunQ O code.md (callVal O st b 66 (evalXs st xs) fl) d r fs st Q) := R_call 66 xs fl rfl
theorem rcall67 {O : Oracle} {st : St} {Q : Ex → St → Prop} {fs : List Fr} {d : Option Nat} {b i : Nat} {ap : List X} {r : List IOp} (xs : List X) (fl : Bool) : RunO O code.md (⟨d, .call 67 xs fl, none, b, i, ap⟩ :: r) fs st Q = (quietOk st (.call 67 xs fl) ap = true ∧ RunQ O code.md (callVal O st b 67 (evalXs st xs) fl) d r fs st Q) := R_call 67 xs fl rfl
theorem rcall68 {O : Oracle} {st : St} {Q : Ex → St → Prop} {fs : List Fr} {d : Option Nat} {b i : Nat} {ap : List X} {r : List IOp} (xs : List X) (fl : Bool) : RunO O code.md (⟨d, .call 68 xs fl, none, b, i, ap⟩ :: r) fs st Q = (quietOk st (.call 68 xs fl) ap = true ∧ RunQ O code.md (callVal O st b 68 (evalXs st xs) fl) d r fs st Q) := R_call 68 xs fl rfl
theorem rcall69 {O : Oracle} {st : St} {Q : Ex → St → Prop} {fs : List Fr} {d : Option Nat} {b i : Nat} {ap : List X} {r : List IOp} (xs : List X) (fl : Bool) : RunO O code.md (⟨d, .call 69 xs fl, none, b, i, ap⟩ :: r) fs st Q = (quietOk st (.call 69 xs fl) ap = true ∧ RunQ O code.md (callVal O st b 69 (evalXs st xs) fl) d r fs st Q) := R_call 69 xs fl rfl
theorem rcall70 {O : Oracle} {st : St} {Q : Ex → St → Prop} {fs : List Fr} {d : Option Nat} {b i : Nat} {ap : List X} {r : List IOp} (xs : List X) (fl : Bool) : RunO O code.md (⟨d, .call 70 xs fl, none, b, i, ap⟩ :: r) fs st Q = (quietOk st (.call 70 xs fl) ap = true ∧ RunQ O code.md (callVal O st b 70 (evalXs st xs) fl) d r fs st Q) := R_call 70 xs fl rfl
theorem rcall71 {O : Oracle} {st : St} {Q : Ex → St → Prop} {fs : List Fr} {d : Option Nat} {b i : Nat} {ap : List X} {r : List IOp} (xs : List X) (fl : Bool) : RunO O code.md (⟨d, .call 71 xs fl, none, b, i, ap⟩ :: r) fs st Q = (quietOk st (.call 71 xs fl) ap = true ∧ RunQ O code.md (callVal O st b 71 (evalXs st xs) fl) d r fs st Q) := R_call 71 xs fl rfl
theorem rcall72 {O : Oracle} {st : St} {Q : Ex → St → Prop} {fs : List Fr} {d : Option Nat} {b i : Nat} {ap : List X} {r : List IOp} (xs : List X) (fl : Bool) : RunO O code.md (⟨d, .call 72 xs fl, none, b, i, ap⟩ :: r) fs st Q = (quietOk st (.call 72 xs fl) ap = true ∧ RunQ O code.md (callVal O st b 72 (evalXs st xs) fl) d r fs st Q) := R_call 72 xs fl rfl
theorem rcall73 {O : Oracle} {st : St} {Q : Ex → St → Prop} {fs : List Fr} {d : Option Nat} {b i : Nat} {ap : List X} {r : List IOp} (xs : List X) (fl : Bool) : RunO O code.md (⟨d, .call 73 xs fl, none, b, i, ap⟩ :: r) fs st Q = (quietOk st (.call 73 xs fl) ap = true ∧ RunQ O code.md (callVal O st b 73 (evalXs st xs) fl) d r fs st Q) := R_call 73 xs fl rfl
theorem rcall74 {O : Oracle} {st : St} {Q : Ex → St → Prop} {fs : List Fr} {d : Option Nat} {b i : Nat} {ap : List X} {r : List IOp} (xs : List X) (fl : Bool) : RunO O code.md (⟨d, .call 74 xs fl, none, b, i, ap⟩ :: r) fs st Q = (quietOk st (.call 74 xs fl) ap = true ∧ RunQ O code.md (callVal O st b 74 (evalXs st xs) fl) d r fs st Q) := R_call 74 xs fl rfl
theorem rcall75 {O : Oracle} {st : St} {Q : Ex → St → Prop} {fs : List Fr} {d : Option Nat} {b i : Nat} {ap : List X} {r : List IOp} (xs : List X) (fl : Bool) : RunO O code.md (⟨d, .call 75 xs fl, none, b, i, ap⟩ :: r) fs st Q = (quietOk st (.call 75 xs fl) ap = true ∧ RunQ O code.md (callVal O st b 75 (evalXs st xs) fl) d r fs st Q) := R_call 75 xs fl rfl
theorem rcall76 {O : Oracle} {st : St} {Q : Ex → St → Prop} {fs : List Fr} {d : Option Nat} {b i : Nat} {ap : List X} {r : List IOp} (xs : List X) (fl : Bool) : RunO O code.md (⟨d, .call 76 xs fl, none, b, i, ap⟩ :: r) fs st Q = (quietOk st (.call 76 xs fl) ap = true ∧ RunQ O code.md (callVal O st b 76 (evalXs st xs) fl) d r fs st Q) := R_call 76 xs fl rfl
theorem rcall77 {O : Oracle} {st : St} {Q : Ex → St → Prop} {fs : List Fr} {d : Option Nat} {b i : Nat} {ap : List X} {r : List IOp} (xs : List X) (fl : Bool) : RunO O code.md (⟨d, .call 77 xs fl, none, b, i, ap⟩ :: r) fs st Q = (quietOk st (.call 77 xs fl) ap = true ∧ RunQ O code.md (callVal O st b 77 (evalXs st xs) fl) d r fs st Q) := R_call 77 xs fl rfl
theorem rcall78 {O : Oracle} {st : St} {Q : Ex → St → Prop} {fs : List Fr} {d : Option Nat} {b i : Nat} {ap : List X} {r : List IOp} (xs : List X) (fl : Bool) : RunO O code.md (⟨d, .call 78 xs fl, none, b, i, ap⟩ :: r) fs st Q = (quietOk st (.call 78 xs fl) ap = true ∧ RunQ O code.md (callVal O st b 78 (evalXs st xs) fl) d r fs st Q) := R_call 78 xs fl rfl
theorem rcall81 {O : Oracle} {st : St} {Q : Ex → St → Prop} {fs : List Fr} {d : Option Nat} {b i : Nat} {ap : List X} {r : List IOp} (xs : List X) (fl : Bool) : RunO O code.md (⟨d, .call 81 xs fl, none, b, i, ap⟩ :: r) fs st Q = (quietOk st (.call 81 xs fl) ap = true ∧ RunQ O code.md (callVal O st b 81 (evalXs st xs) fl) d r fs st Q) := R_call 81 xs fl rfl
theorem rcall82 {O : Oracle} {st : St} {Q : Ex → St → Prop} {fs : List Fr} {d : Option Nat} {b i : Nat} {ap : List X} {r : List IOp} (xs : List X) (fl : Bool) : RunO O code.md (⟨d, .call 82 xs fl, none, b, i, ap⟩ :: r) fs st Q = (quietOk st (.call 82 xs fl) ap = true ∧ RunQ O code.md (callVal O st b 82 (evalXs st xs) fl) d r fs st Q) := R_call 82 xs fl rfl
theorem rcall87 {O : Oracle} {st : St} {Q : Ex → St → Prop} {fs : List Fr} {d : Option Nat} {b i : Nat} {ap : List X} {r : List IOp} (xs : List X) (fl : Bool) : RunO O code.md (⟨d, .call 87 xs fl, none, b, i, ap⟩ :: r) fs st Q = (quietOk st (.call 87 xs fl) ap = true ∧ RunQ O code.md (callVal O st b 87 (evalXs st xs) fl) d r fs st Q) := R_call 87 xs fl rfl
theorem rcall88 {O : Oracle} {st : St} {Q : Ex → St → Prop} {fs : List Fr} {d : Option Nat} {b i : Nat} {ap : List X} {r : List IOp} (xs : List X) (fl : Bool) : RunO O code.md (⟨d, .call 88 xs fl, none, b, i, ap⟩ :: r) fs st Q = (quietOk st (.call 88 xs fl) ap = true ∧ RunQ O code.md (callVal O st b 88 (evalXs st xs) fl) d r fs st Q) := R_call 88 xs fl rfl
theorem rcall89 {O : Oracle} {st : St} {Q : Ex → St → Prop} {fs : List Fr} {d : Option Nat} {b i : Nat} {ap : List X} {r : List IOp} (xs : List X) (fl : Bool) : RunO O code.md (⟨d, .call 89 xs fl, none, b, i, ap⟩ :: r) fs st Q = (quietOk st (.call 89 xs fl) ap = true ∧ RunQ O code.md (callVal O st b 89 (evalXs st xs) fl) d r fs st Q) := R_call 89 xs fl rfl
theorem rcall90 {O : Oracle} {st : St} {Q : Ex → St → Prop} {fs : List Fr} {d : Option Nat} {b i : Nat} {ap : List X} {r : List IOp} (xs : List X) (fl : Bool) : RunO O code.md (⟨d, .call 90 xs fl, none, b, i, ap⟩ :: r) fs st Q = (quietOk st (.call 90 xs fl) ap = true ∧ RunQ O code.md (callVal O st b 90 (evalXs st xs) fl) d r fs st Q) := R_call 90 xs fl rfl
theorem rcall91 {O : Oracle} {st : St} {Q : Ex → St → Prop} {fs : List Fr} {d : Option Nat} {b i : Nat} {ap : List X} {r : List IOp} (xs : List X) (fl : Bool) : RunO O code.md (⟨d, .call 91 xs fl, none, b, i, ap⟩ :: r) fs st Q = (quietOk st (.call 91 xs fl) ap = true ∧ RunQ O code.md (callVal O st b 91 (evalXs st xs) fl) d r fs st Q) := R_call 91 xs fl rfl
theorem rcall92 {O : Oracle} {st : St} {Q : Ex → St → Prop} {fs : List Fr} {d : Option Nat} {b i : Nat} {ap : List X} {r : List IOp} (xs : List X) (fl : Bool) : RunO O code.md (⟨d, .call 92 xs fl, none, b, i, ap⟩ :: r) fs st Q = (quietOk st (.call 92 xs fl) ap = true ∧ RunQ O code.md (callVal O st b 92 (evalXs st xs) fl) d r fs st Q) := R_call 92 xs fl rfl
theorem rcall93 {O : Oracle} {st : St} {Q : Ex → St → Prop} {fs : List Fr} {d : Option Nat} {b i : Nat} {ap : List X} {r : List IOp} (xs : List X) (fl : Bool) : RunO O code.md (⟨d, .call 93 xs fl, none, b, i, ap⟩ :: r) fs st Q = (quietOk st (.call 93 xs fl) ap = true ∧ RunQ O code.md (callVal O st b 93 (evalXs st xs) fl) d r fs st Q) := R_call 93 xs fl rfl
theorem rcall94 {O : Oracle} {st : St} {Q : Ex → St → Prop} {fs : List Fr} {d : Option Nat} {b i : Nat} {ap : List X} {r : List IOp} (xs : List X) (fl : Bool) : RunO O code.md (⟨d, .call 94 xs fl, none, b, i, ap⟩ :: r) fs st Q = (quietOk st (.call 94 xs fl) ap = true ∧ RunQ O code.md (callVal O st b 94 (evalXs st xs) fl) d r fs st Q) := R_call 94 xs fl rfl
theorem rcall95 {O : Oracle} {st : St} {Q : Ex → St → Prop} {fs : List Fr} {d : Option Nat} {b i : Nat} {ap : List X} {r : List IOp} (xs : List X) (fl : Bool) : RunO O code.md (⟨d, .call 95 xs fl, none, b, i, ap⟩ :: r) fs st Q = ((apartOk st (.call 95 xs fl) ap && keyedOk st ap) = true ∧ RunW O code.md (callRef O st b 95 (evalXs st xs) fl) d r fs Q) := R_callr 95 xs fl rfl
theorem rcall96 {O : Oracle} {st : St} {Q : Ex → St → Prop} {fs : List Fr} {d : Option Nat} {b i : Nat} {ap : List X} {r : List IOp} (xs : List X) (fl : Bool) : RunO O code.md (⟨d, .call 96 xs fl, none, b, i, ap⟩ :: r) fs st Q = (quietOk st (.call 96 xs fl) ap = true ∧ RunQ O code.md (callVal O st b 96 (evalXs st xs) fl) d r fs st Q) := R_call 96 xs fl rfl
theorem rcall97 {O : Oracle} {st : St} {Q : Ex → St → Prop} {fs : List Fr} {d : Option Nat} {b i : Nat} {ap : List X} {r : List IOp} (xs : List X) (fl : Bool) : RunO O code.md (⟨d, .call 97 xs fl, none, b, i, ap⟩ :: r) fs st Q = (quietOk st (.call 97 xs fl) ap = true ∧ RunQ O code.md (callVal O st b 97 (evalXs st xs) fl) d r fs st Q) := R_call 97 xs fl rfl
theorem rcall99 {O : Oracle} {st : St} {Q : Ex → St → Prop} {fs : List Fr} {d : Option Nat} {b i : Nat} {ap : List X} {r : List IOp} (xs : List X) (fl : Bool) : RunO O code.md (⟨d, .call 99 xs fl, none, b, i, ap⟩ :: r) fs st Q = (quietOk st (.call 99 xs fl) ap = true ∧ RunQ O code.md (callVal O st b 99 (evalXs st xs) fl) d r fs st Q) := R_call 99 xs fl rfl
theorem rcall102 {O : Oracle} {st : St} {Q : Ex → St → Prop} {fs : List Fr} {d : Option Nat} {b i : Nat} {ap : List X} {r : List IOp} (xs : List X) (fl : Bool) : RunO O code.md (⟨d, .call 102 xs fl, none, b, i, ap⟩ :: r) fs st Q = (quietOk st (.call 102 xs fl) ap = true ∧ RunQ O code.md (callVal O st b 102 (evalXs st xs) fl) d r fs st Q) := R_call 102 xs fl rfl
theorem rcall106 {O : Oracle} {st : St} {Q : Ex → St → Prop} {fs : List Fr} {d : Option Nat} {b i : Nat} {ap : List X} {r : List IOp} (xs : List X) (fl : Bool) : RunO O code.md (⟨d, .call 106 xs fl, none, b, i, ap⟩ :: r) fs st Q = (quietOk st (.call 106 xs fl) ap = true ∧ RunQ O code.md (callVal O st b 106 (evalXs st xs) fl) d r fs st Q) := R_call 106 xs fl rfl
theorem rcall115 {O : Oracle} {st : St} {Q : Ex → St → Prop} {fs : List Fr} {d : Option Nat} {b i : Nat} {ap : List X} {r : List IOp} (xs : List X) (fl : Bool) : RunO O code.md (⟨d, .call 115 xs fl, none, b, i, ap⟩ :: r) fs st Q = (quietOk st (.call 115 xs fl) ap = true ∧ RunQ O code.md (callVal O st b 115 (evalXs st xs) fl) d r fs st Q) := R_call 115 xs fl rfl
theorem rcall116 {O : Oracle} {st : St} {Q : Ex → St → Prop} {fs : List Fr} {d : Option Nat} {b i : Nat} {ap : List X} {r : List IOp} (xs : List X) (fl : Bool) : RunO O code.md (⟨d, .call 116 xs fl, none, b, i, ap⟩ :: r) fs st Q = (quietOk st (.call 116 xs fl) ap = true ∧ RunQ O code.md (callVal O st b 116 (evalXs st xs) fl) d r fs st Q) := R_call 116 xs fl rfl
theorem rcall117 {O : Oracle} {st : St} {Q : Ex → St → Prop} {fs : List Fr} {d : Option Nat} {b i : Nat} {ap : List X} {r : List IOp} (xs : List X) (fl : Bool) : RunO O code.md (⟨d, .call 117 xs fl, none, b, i, ap⟩ :: r) fs st Q = (quietOk st (.call 117 xs fl) ap = true ∧ RunQ O code.md (callVal O st b 117 (evalXs st xs) fl) d r fs st Q) := R_call 117 xs fl rfl
theorem rcall118 {O : Oracle} {st : St} {Q : Ex → St → Prop} {fs : List Fr} {d : Option Nat} {b i : Nat} {ap : List X} {r : List IOp} (xs : List X) (fl : Bool) : RunO O code.md (⟨d, .call 118 xs fl, none, b, i, ap⟩ :: r) fs st Q = (quietOk st (.call 118 xs fl) ap = true ∧ RunQ O code.md (callVal O st b 118 (evalXs st xs) fl) d r fs st Q) := R_call 118 xs fl rfl
theorem rcall119 {O : Oracle} {st : St} {Q : Ex → St → Prop} {fs : List Fr} {d : Option Nat} {b i : Nat} {ap : List X} {r : List IOp} (xs : List X) (fl : Bool) : RunO O code.md (⟨d, .call 119 xs fl, none, b, i, ap⟩ :: r) fs st Q = (quietOk st (.call 119 xs fl) ap = true ∧ RunQ O code.md (callVal O st b 119 (evalXs st xs) fl) d r fs st Q) := R_call 119 xs fl rfl
theorem rcall120 {O : Oracle} {st : St} {Q : Ex → St → Prop} {fs : List Fr} {d : Option Nat} {b i : Nat} {ap : List X} {r : List IOp} (xs : List X) (fl : Bool) : RunO O code.md (⟨d, .call 120 xs fl, none, b, i, ap⟩ :: r) fs st Q = (quietOk st (.call 120 xs fl) ap = true ∧ RunQ O code.md (callVal O st b 120 (evalXs st xs) fl) d r fs st Q) := R_call 120 xs fl rfl
theorem rcall121 {O : Oracle} {st : St} {Q : Ex → St → Prop} {fs : List Fr} {d : Option Nat} {b i : Nat} {ap : List X} {r : List IOp} (xs : List X) (fl : Bool) : RunO O code.md (⟨d, .call 121 xs fl, none, b, i, ap⟩ :: r) fs st Q = (quietOk st (.call 121 xs fl) ap = true ∧ RunQ O code.md (callVal O st b 121 (evalXs st xs) fl) d r fs st Q) := R_call 121 xs fl rfl
theorem rcall122 {O : Oracle} {st : St} {Q : Ex → St → Prop} {fs : List Fr} {d : Option Nat} {b i : Nat} {ap : List X} {r : List IOp} (xs : List X) (fl : Bool) : RunO O code.md (⟨d, .call 122 xs fl, none, b, i, ap⟩ :: r) fs st Q = (quietOk st (.call 122 xs fl) ap = true ∧ RunQ O code.md (callVal O st b 122 (evalXs st xs) fl) d r fs st Q) := R_call 122 xs fl rfl
theorem rcall124 {O : Oracle} {st : St} {Q : Ex → St → Prop} {fs : List Fr} {d : Option Nat} {b i : Nat} {ap : List X} {r : List IOp} (xs : List X) (fl : Bool) : RunO O code.md (⟨d, .call 124 xs fl, none, b, i, ap⟩ :: r) fs st Q = (quietOk st (.call 124 xs fl) ap = true ∧ RunQ O code.md (callVal O st b 124 (evalXs st xs) fl) d r fs st Q) := R_call 124 xs fl rfl
theorem rcall127 {O : Oracle} {st : St} {Q : Ex → St → Prop} {fs : List Fr} {d : Option Nat} {b i : Nat} {ap : List X} {r : List IOp} (xs : List X) (fl : Bool) : RunO O code.md (⟨d, .call 127 xs fl, none, b, i, ap⟩ :: r) fs st Q = (quietOk st (.call 127 xs fl) ap = true ∧ RunQ O code.md (callVal O st b 127 (evalXs st xs) fl) d r fs st Q) := R_call 127 xs fl rfl
theorem rcall128 {O : Oracle} {st : St} {Q : Ex → St → Prop} {fs : List Fr} {d : Option Nat} {b i : Nat} {ap : List X} {r : List IOp} (xs : List X) (fl : Bool) : RunO O code.md (⟨d, .call 128 xs fl, none, b, i, ap⟩ :: r) fs st Q = (quietOk st (.call 128 xs fl) ap = true ∧ RunQ O code.md (callVal O st b 128 (evalXs st xs) fl) d r fs st Q) := R_call 128 xs fl rfl
theorem rcall129 {O : Oracle} {st : St} {Q : Ex → St → Prop} {fs : List Fr} {d : Option Nat} {b i : Nat} {ap : List X} {r : List IOp} (xs : List X) (fl : Bool) : RunO O code.md (⟨d, .call 129 xs fl, none, b, i, ap⟩ :: r) fs st Q = (quietOk st (.call 129 xs fl) ap = true ∧ RunQ O code.md (callVal O st b 129 (evalXs st xs) fl) d r fs st Q) := R_call 129 xs fl rfl
theorem rcall130 {O : Oracle} {st : St} {Q : Ex → St → Prop} {fs : List Fr} {d : Option Nat} {b i : Nat} {ap : List X} {r : List IOp} (xs : List X) (fl : Bool) : RunO O code.md (⟨d, .call 130 xs fl, none, b, i, ap⟩ :: r) fs st Q = (quietOk st (.call 130 xs fl) ap = true ∧ RunQ O code.md (callVal O st b 130 (evalXs st xs) fl) d r fs st Q) := R_call 130 xs fl rfl
theorem rcall131 {O : Oracle} {st : St} {Q : Ex → St → Prop} {fs : List Fr} {d : Option Nat} {b i : Nat} {ap : List X} {r : List IOp} (xs : List X) (fl : Bool) : RunO O code.md (⟨d, .call 131 xs fl, none, b, i, ap⟩ :: r) fs st Q = (quietOk st (.call 131 xs fl) ap = true ∧ RunQ O code.md (callVal O st b 131 (evalXs st xs) fl) d r fs st Q) := R_call 131 xs fl rfl
theorem rcall132 {O : Oracle} {st : St} {Q : Ex → St → Prop} {fs : List Fr} {d : Option Nat} {b i : Nat} {ap : List X} {r : List IOp} (xs : List X) (fl : Bool) : RunO O code.md (⟨d, .call 132 xs fl, none, b, i, ap⟩ :: r) fs st Q = (quietOk st (.call 132 xs fl) ap = true ∧ RunQ O code.md (callVal O st b 132 (evalXs st xs) fl) d r fs st Q) := R_call 132 xs fl rfl
theorem rcall133 {O : Oracle} {st : St} {Q : Ex → St → Prop} {fs : List Fr} {d : Option Nat} {b i : Nat} {ap : List X} {r : List IOp} (xs : List X) (fl : Bool) : RunO O code.md (⟨d, .call 133 xs fl, none, b, i, ap⟩ :: r) fs st Q = (quietOk st (.call 133 xs fl) ap = true ∧ RunQ O code.md (callVal O st b 133 (evalXs st xs) fl) d r fs st Q) := R_call 133 xs fl rfl
theorem rcall134 {O : Oracle} {st : St} {Q : Ex → St → Prop} {fs : List Fr} {d : Option Nat} {b i : Nat} {ap : List X} {r : List IOp} (xs : List X) (fl : Bool) : RunO O code.md (⟨d, .call 134 xs fl, none, b, i, ap⟩ :: r) fs st Q = ((apartOk st (.call 134 xs fl) ap && keyedOk st ap) = true ∧ RunW O code.md (callRef O st b 134 (evalXs st xs) fl) d r fs Q) := R_callr 134 xs fl rfl
theorem rcall135 {O : Oracle} {st : St} {Q : Ex → St → Prop} {fs : List Fr} {d : Option Nat} {b i : Nat} {ap : List X} {r : List IOp} (xs : List X) (fl : Bool) : RunO O code.md (⟨d, .call 135 xs fl, none, b, i, ap⟩ :: r) fs st Q = (quietOk st (.call 135 xs fl) ap = true ∧ RunQ O code.md (callVal O st b 135 (evalXs st xs) fl) d r fs st Q) := R_call 135 xs fl rfl
theorem rcall136 {O : Oracle} {st : St} {Q : Ex → St → Prop} {fs : List Fr} {d : Option Nat} {b i : Nat} {ap : List X} {r : List IOp} (xs : List X) (fl : Bool) : RunO O code.md (⟨d, .call 136 xs fl, none, b, i, ap⟩ :: r) fs st Q = (quietOk st (.call 136 xs fl) ap = true ∧ RunQ O code.md (callVal O st b 136 (evalXs st xs) fl) d r fs st Q) := R_call 136 xs fl rfl
theorem rcall140 {O : Oracle} {st : St} {Q : Ex → St → Prop} {fs : List Fr} {d : Option Nat} {b i : Nat} {ap : List X} {r : List IOp} (xs : List X) (fl : Bool) : RunO O code.md (⟨d, .call 140 xs fl, none, b, i, ap⟩ :: r) fs st Q = (quietOk st (.call 140 xs fl) ap = true ∧ RunQ O code.md (callVal O st b 140 (evalXs st xs) fl) d r fs st Q) := R_call 140 xs fl rfl
theorem rcall145 {O : Oracle} {st : St} {Q : Ex → St → Prop} {fs : List Fr} {d : Option Nat} {b i : Nat} {ap : List X} {r : List IOp} (xs : List X) (fl : Bool) : RunO O code.md (⟨d, .call 145 xs fl, none, b, i, ap⟩ :: r) fs st Q = (quietOk st (.call 145 xs fl) ap = true ∧ RunQ O code.md (callVal O st b 145 (evalXs st xs) fl) d r fs st Q) := R_call 145 xs fl rfl
theorem rcall148 {O : Oracle} {st : St} {Q : Ex → St → Prop} {fs : List Fr} {d : Option Nat} {b i : Nat} {ap : List X} {r : List IOp} (xs : List X) (fl : Bool) : RunO O code.md (⟨d, .call 148 xs fl, none, b, i, ap⟩ :: r) fs st Q = (quietOk st (.call 148 xs fl) ap = true ∧ RunQ O code.md (callVal O st b 148 (evalXs st xs) fl) d r fs st Q) := R_call 148 xs fl rfl
theorem rcall149 {O : Oracle} {st : St} {Q : Ex → St → Prop} {fs : List Fr} {d : Option Nat} {b i : Nat} {ap : List X} {r : List IOp} (xs : List X) (fl : Bool) : RunO O code.md (⟨d, .call 149 xs fl, none, b, i, ap⟩ :: r) fs st Q = (quietOk st (.call 149 xs fl) ap = true ∧ RunQ O code.md (callVal O st b 149 (evalXs st xs) fl) d r fs st Q) := R_call 149 xs fl rfl
theorem rcall150 {O : Oracle} {st : St} {Q : Ex → St → Prop} {fs : List Fr} {d : Option Nat} {b i : Nat} {ap : List X} {r : List IOp} (xs : List X) (fl : Bool) : RunO O code.md (⟨d, .call 150 xs fl, none, b, i, ap⟩ :: r) fs st Q = (quietOk st (.call 150 xs fl) ap = true ∧ RunQ O code.md (callVal O st b 150 (evalXs st xs) fl) d r fs st Q) := R_call 150 xs fl rfl
theorem rcall151 {O : Oracle} {st : St} {Q : Ex → St → Prop} {fs : List Fr} {d : Option Nat} {b i : Nat} {ap : List X} {r : List IOp} (xs : List X) (fl : Bool) : RunO O code.md (⟨d, .call 151 xs fl, none, b, i, ap⟩ :: r) fs st Q = (quietOk st (.call 151 xs fl) ap = true ∧ RunQ O code.md (callVal O st b 151 (evalXs st xs) fl) d r fs st Q) := R_call 151 xs fl rfl
theorem rcall152 {O : Oracle} {st : St} {Q : Ex → St → Prop} {fs : List Fr} {d : Option Nat} {b i : Nat} {ap : List X} {r : List IOp} (xs : List X) (fl : Bool) : RunO O code.md (⟨d, .call 152 xs fl, none, b, i, ap⟩ :: r) fs st Q = (quietOk st (.call 152 xs fl) ap = true ∧ RunQ O code.md (callVal O st b 152 (evalXs st xs) fl) d r fs st Q) := R_call 152 xs fl rfl
theorem rcall157 {O : Oracle} {st : St} {Q : Ex → St → Prop} {fs : List Fr} {d : Option Nat} {b i : Nat} {ap : List X} {r : List IOp} (xs : List X) (fl : Bool) : RunO O code.md (⟨d, .call 157 xs fl, none, b, i, ap⟩ :: r) fs st Q = (quietOk st (.call 157 xs fl) ap = true ∧ RunQ O code.md (callVal O st b 157 (evalXs st xs) fl) d r fs st Q) := R_call 157 xs fl rfl
theorem rcall158 {O : Oracle} {st : St} {Q : Ex → St → Prop} {fs : List Fr} {d : Option Nat} {b i : Nat} {ap : List X} {r : List IOp} (xs : List X) (fl : Bool) : RunO O code.md (⟨d, .call 158 xs fl, none, b, i, ap⟩ :: r) fs st Q = (quietOk st (.call 158 xs fl) ap = true ∧ RunQ O code.md (callVal O st b 158 (evalXs st xs) fl) d r fs st Q) := R_call 158 xs fl rfl
theorem rcall160 {O : Oracle} {st : St} {Q : Ex → St → Prop} {fs : List Fr} {d : Option Nat} {b i : Nat} {ap : List X} {r : List IOp} (xs : List X) (fl : Bool) : RunO O code.md (⟨d, .call 160 xs fl, none, b, i, ap⟩ :: r) fs st Q = (quietOk st (.call 160 xs fl) ap = true ∧ RunQ O code.md (callVal O st b 160 (evalXs st xs) fl) d r fs st Q) := R_call 160 xs fl rfl
theorem rcall161 {O : Oracle} {st : St} {Q : Ex → St → Prop} {fs : List Fr} {d : Option Nat} {b i : Nat} {ap : List X} {r : List IOp} (xs : List X) (fl : Bool) : RunO O code.md (⟨d, .call 161 xs fl, none, b, i, ap⟩ :: r) fs st Q = (quietOk st (.call 161 xs fl) ap = true ∧ RunQ O code.md (callVal O st b 161 (evalXs st xs) fl) d r fs st Q) := R_call 161 xs fl rfl
theorem rcall162 {O : Oracle} {st : St} {Q : Ex → St → Prop} {fs : List Fr} {d : Option Nat} {b i : Nat} {ap : List X} {r : List IOp} (xs : List X) (fl : Bool) : RunO O code.md (⟨d, .call 162 xs fl, none, b, i, ap⟩ :: r) fs st Q = ((apartOk st (.call 162 xs fl) ap && keyedOk st ap) = true ∧ RunW O code.md (callRef O st b 162 (evalXs st xs) fl) d r fs Q) := R_callr 162 xs fl rfl
theorem rcall163 {O : Oracle} {st : St} {Q : Ex → St → Prop} {fs : List Fr} {d : Option Nat} {b i : Nat} {ap : List X} {r : List IOp} (xs : List X) (fl : Bool) : RunO O code.md (⟨d, .call 163 xs fl, none, b, i, ap⟩ :: r) fs st Q = (quietOk st (.call 163 xs fl) ap = true ∧ RunQ O code.md (callVal O st b 163 (evalXs st xs) fl) d r fs st Q) := R_call 163 xs fl rfl
theorem rcall164 {O : Oracle} {st : St} {Q : Ex → St → Prop} {fs : List Fr} {d : Option Nat} {b i : Nat} {ap : List X} {r : List IOp} (xs : List X) (fl : Bool) : RunO O code.md (⟨d, .call 164 xs fl, none, b, i, ap⟩ :: r) fs st Q = (quietOk st (.call 164 xs fl) ap = true ∧ RunQ O code.md (callVal O st b 164 (evalXs st xs) fl) d r fs st Q) := R_call 164 xs fl rfl
theorem rcall165 {O : Oracle} {st : St} {Q : Ex → St → Prop} {fs : List Fr} {d : Option Nat} {b i : Nat} {ap : List X} {r : List IOp} (xs : List X) (fl : Bool) : RunO O code.md (⟨d, .call 165 xs fl, none, b, i, ap⟩ :: r) fs st Q = (quietOk st (.call 165 xs fl) ap = true ∧ RunQ O code.md (callVal O st b 165 (evalXs st xs) fl) d r fs st Q) := R_call 165 xs fl rfl
theorem rcall166 {O : Oracle} {st : St} {Q : Ex → St → Prop} {fs : List Fr} {d : Option Nat} {b i : Nat} {ap : List X} {r : List IOp} (xs : List X) (fl : Bool) : RunO O code.md (⟨d, .call 166 xs fl, none, b, i, ap⟩ :: r) fs st Q = (quietOk st (.call 166 xs fl) ap = true ∧ RunQ O code.md (callVal O st b 166 (evalXs st xs) fl) d r fs st Q) := R_call 166 xs fl rfl
theorem rcall171 {O : Oracle} {st : St} {Q : Ex → St → Prop} {fs : List Fr} {d : Option Nat} {b i : Nat} {ap : List X} {r : List IOp} (xs : List X) (fl : Bool) : RunO O code.md (⟨d, .call 171 xs fl, none, b, i, ap⟩ :: r) fs st Q = (quietOk st (.call 171 xs fl) ap = true ∧ RunQ O code.md (callVal O st b 171 (evalXs st xs) fl) d r fs st Q) := R_call 171 xs fl rfl
theorem rcall173 {O : Oracle} {st : St} {Q : Ex → St → Prop} {fs : List Fr} {d : Option Nat} {b i : Nat} {ap : List X} {r : List IOp} (xs : List X) (fl : Bool) : RunO O code.md (⟨d, .call 173 xs fl, none, b, i, ap⟩ :: r) fs st Q = (quietOk st (.call 173 xs fl) ap = true ∧ RunQ O code.md (callVal O st b 173 (evalXs st xs) fl) d r fs st Q) := R_call 173 xs fl rfl
theorem rcall174 {O : Oracle} {st : St} {Q : Ex → St → Prop} {fs : List Fr} {d : Option Nat} {b i : Nat} {ap : List X} {r : List IOp} (xs : List X) (fl : Bool) : RunO O code.md (⟨d, .call 174 xs fl, none, b, i, ap⟩ :: r) fs st Q = (quietOk st (.call 174 xs fl) ap = true ∧ RunQ O code.md (callVal O st b 174 (evalXs st xs) fl) d r fs st Q) := R_call 174 xs fl rfl
theorem rcall175 {O : Oracle} {st : St} {Q : Ex → St → Prop} {fs : List Fr} {d : Option Nat} {b i : Nat} {ap : List X} {r : List IOp} (xs : List X) (fl : Bool) : RunO O code.md (⟨d, .call 175 xs fl, none, b, i, ap⟩ :: r) fs st Q = ((apartOk st (.call 175 xs fl) ap && keyedOk st ap) = true ∧ RunW O code.md (callRef O st b 175 (evalXs st xs) fl) d r fs Q) := R_callr 175 xs fl rfl
theorem rcall176 {O : Oracle} {st : St} {Q : Ex → St → Prop} {fs : List Fr} {d : Option Nat} {b i : Nat} {ap : List X} {r : List IOp} (xs : List X) (fl : Bool) : RunO O code.md (⟨d, .call 176 xs fl, none, b, i, ap⟩ :: r) fs st Q = ((apartOk st (.call 176 xs fl) ap && keyedOk st ap) = true ∧ RunW O code.md (callRef O st b 176 (evalXs st xs) fl) d r fs Q) := R_callr 176 xs fl rfl
end Go.Ae.C1
