/- The code of the functions, for the evaluator. -/
import Derived.Test.YtppcbpmnfahnkaaAeWp
namespace Go.Ae.R2

def md : Nat → Mode
  | 12 => .ref
  | 33 => .ref
  | 40 => .ref
  | _ => .val
/-- loop.example/g00849/laws.FnExactCodeMatrix -/
def F3 : F := ⟨2, 68, [.t 4],
 .seq (.reg [⟨(some 4), .mv (.k (.bool false)), none, 0, 0, []⟩])
 (.seq (.reg [⟨(some 14), .mv (.t 0), none, 65536, 0, []⟩,
   ⟨(some 15), .mv (.t 1), none, 65792, 1, []⟩,
   ⟨(some 16), .call 9 [(.t 14), (.t 15)] false, none, 66048, 2, []⟩,
   ⟨(some 13), .mv (.t 16), none, 66304, 3, []⟩,
   ⟨(some 17), .ext (.t 13) 0, none, 66560, 4, []⟩,
   ⟨(some 18), .ext (.t 13) 1, none, 66816, 5, []⟩,
   ⟨(some 5), .alloc [(.int .i64 0), (.int .i64 0), (.nil true 1)], none, 67072, 6, []⟩,
   ⟨none, .store 3 (.t 5) (.t 17), none, 67328, 7, []⟩,
   ⟨(some 6), .mv (.t 18), none, 67584, 8, []⟩])
 (.seq (.reg [⟨(some 20), .mv (.t 0), none, 131072, 0, []⟩,
   ⟨(some 21), .mv (.t 1), none, 131328, 1, []⟩,
   ⟨(some 22), .call 10 [(.t 20), (.t 21)] false, none, 131584, 2, []⟩,
   ⟨(some 19), .mv (.t 22), none, 131840, 3, []⟩,
   ⟨(some 23), .ext (.t 19) 0, none, 132096, 4, []⟩,
   ⟨(some 24), .ext (.t 19) 1, none, 132352, 5, []⟩,
   ⟨(some 7), .alloc [(.int .i64 0), (.int .i64 0), (.nil true 1)], none, 132608, 6, []⟩,
   ⟨none, .store 3 (.t 7) (.t 23), none, 132864, 7, []⟩,
   ⟨(some 8), .mv (.t 24), none, 133120, 8, []⟩])
 (.seq (.seq (.reg [⟨(some 25), .load 3 true (.t 7), none, 196608, 0, []⟩,
   ⟨(some 26), .load 3 true (.t 5), none, 196864, 1, []⟩,
   ⟨(some 27), .call 11 [(.t 25), (.t 26)] true, none, 197120, 2, []⟩,
   ⟨(some 28), .not (.t 27), none, 197376, 3, []⟩,
   ⟨(some 29), .mv (.t 28), none, 197632, 4, []⟩,
   ⟨(some 30), .mv (.t 8), (some (some 29, false)), 197888, 5, []⟩,
   ⟨(some 31), .mv (.t 6), (some (some 29, false)), 198144, 6, []⟩,
   ⟨(some 32), .bin .neq (.t 30) (.t 31), (some (some 29, false)), 198400, 7, []⟩,
   ⟨(some 33), .pick (.t 29) (.k (.bool true)) (.t 32), none, 198656, 8, []⟩])
 (.cond (.t 33)
  (.seq (.reg [⟨(some 4), .mv (.k (.bool false)), none, 262144, 0, []⟩])
  (.ret))
  (.skip)))
 (.seq (.reg [⟨(some 9), .mv (.k (.int .i64 1)), none, 327680, 0, []⟩])
 (.seq (.reg [⟨(some 34), .load 3 true (.t 7), none, 393216, 0, []⟩,
   ⟨(some 35), .mv (.t 9), none, 393472, 1, []⟩,
   ⟨(some 36), .call 12 [(.t 34), (.t 35)] true, none, 393728, 2, []⟩,
   ⟨(some 9), .mv (.t 36), none, 393984, 3, []⟩])
 (.seq (.reg [⟨(some 10), .mv (.k (.int .i64 1)), none, 458752, 0, []⟩])
 (.seq (.reg [⟨(some 37), .load 3 true (.t 7), none, 524288, 0, []⟩,
   ⟨(some 38), .mv (.t 10), none, 524544, 1, []⟩,
   ⟨(some 39), .call 13 [(.t 37), (.t 38)] true, none, 524800, 2, []⟩,
   ⟨(some 10), .mv (.t 39), none, 525056, 3, []⟩])
 (.seq (.seq (.reg [⟨(some 40), .mv (.t 10), none, 589824, 0, []⟩,
   ⟨(some 41), .bin .lss (.t 40) (.k (.int .i64 0)), none, 590080, 1, []⟩])
 (.cond (.t 41)
  (.seq (.reg [⟨(some 4), .mv (.k (.bool false)), none, 655360, 0, []⟩])
  (.ret))
  (.skip)))
 (.seq (.seq (.reg [⟨(some 42), .mv (.t 10), none, 720896, 0, []⟩,
   ⟨(some 43), .mv (.t 9), none, 721152, 1, []⟩,
   ⟨(some 44), .bin .neq (.t 42) (.t 43), none, 721408, 2, []⟩])
 (.cond (.t 44)
  (.seq (.reg [⟨(some 4), .mv (.k (.bool false)), none, 786432, 0, []⟩])
  (.ret))
  (.skip)))
 (.seq (.reg [⟨(some 46), .mv (.t 0), none, 851968, 0, []⟩,
   ⟨(some 47), .mv (.t 1), none, 852224, 1, []⟩,
   ⟨(some 48), .call 10 [(.t 46), (.t 47)] false, none, 852480, 2, []⟩,
   ⟨(some 45), .mv (.t 48), none, 852736, 3, []⟩,
   ⟨(some 49), .ext (.t 45) 0, none, 852992, 4, []⟩,
   ⟨(some 50), .ext (.t 45) 1, none, 853248, 5, []⟩,
   ⟨(some 11), .alloc [(.int .i64 0), (.int .i64 0), (.nil true 1)], none, 853504, 6, []⟩,
   ⟨none, .store 3 (.t 11) (.t 49), none, 853760, 7, []⟩,
   ⟨(some 12), .mv (.t 50), none, 854016, 8, []⟩])
 (.seq (.seq (.reg [⟨(some 51), .load 3 true (.t 11), none, 917504, 0, []⟩,
   ⟨(some 52), .load 3 true (.t 5), none, 917760, 1, []⟩,
   ⟨(some 53), .call 11 [(.t 51), (.t 52)] true, none, 918016, 2, []⟩,
   ⟨(some 54), .not (.t 53), none, 918272, 3, []⟩,
   ⟨(some 55), .mv (.t 54), none, 918528, 4, []⟩,
   ⟨(some 56), .mv (.t 12), (some (some 55, false)), 918784, 5, []⟩,
   ⟨(some 57), .mv (.t 6), (some (some 55, false)), 919040, 6, []⟩,
   ⟨(some 58), .bin .neq (.t 56) (.t 57), (some (some 55, false)), 919296, 7, []⟩,
   ⟨(some 59), .pick (.t 55) (.k (.bool true)) (.t 58), none, 919552, 8, []⟩])
 (.cond (.t 59)
  (.seq (.reg [⟨(some 4), .mv (.k (.bool false)), none, 983040, 0, []⟩])
  (.ret))
  (.skip)))
 (.seq (.reg [⟨(some 10), .mv (.k (.int .i64 1)), none, 1048576, 0, []⟩])
 (.seq (.reg [⟨(some 60), .load 3 true (.t 7), none, 1114112, 0, []⟩,
   ⟨(some 61), .mv (.t 10), none, 1114368, 1, []⟩,
   ⟨(some 62), .call 13 [(.t 60), (.t 61)] true, none, 1114624, 2, []⟩,
   ⟨(some 10), .mv (.t 62), none, 1114880, 3, []⟩])
 (.seq (.seq (.reg [⟨(some 63), .mv (.t 10), none, 1179648, 0, []⟩,
   ⟨(some 64), .bin .lss (.t 63) (.k (.int .i64 0)), none, 1179904, 1, []⟩])
 (.cond (.t 64)
  (.seq (.reg [⟨(some 4), .mv (.k (.bool false)), none, 1245184, 0, []⟩])
  (.ret))
  (.skip)))
 (.seq (.seq (.reg [⟨(some 65), .mv (.t 10), none, 1310720, 0, []⟩,
   ⟨(some 66), .mv (.t 9), none, 1310976, 1, []⟩,
   ⟨(some 67), .bin .neq (.t 65) (.t 66), none, 1311232, 2, []⟩])
 (.cond (.t 67)
  (.seq (.reg [⟨(some 4), .mv (.k (.bool false)), none, 1376256, 0, []⟩])
  (.ret))
  (.skip)))
 (.seq (.reg [⟨(some 4), .mv (.k (.bool true)), none, 1441792, 0, []⟩])
 (.ret)))))))))))))))))⟩
/-- loop.example/g00849/laws.FnExactMatMul -/
def F4 : F := ⟨2, 119, [.t 4],
 .seq (.reg [⟨(some 2), .box (.t 0), none, 0, 0, []⟩,
   ⟨(some 3), .box (.t 1), none, 256, 1, []⟩,
   ⟨(some 4), .mv (.k (.bool false)), none, 512, 2, []⟩])
 (.seq (.reg [⟨(some 5), .mv (.k (.int .i64 1048576)), none, 65536, 0, []⟩])
 (.seq (.reg [⟨(some 17), .load 3 true (.t 2), none, 131072, 0, []⟩,
   ⟨(some 18), .mv (.t 5), none, 131328, 1, []⟩,
   ⟨(some 19), .call 14 [(.t 17), (.t 18)] true, none, 131584, 2, []⟩,
   ⟨(some 5), .mv (.t 19), none, 131840, 3, []⟩])
 (.seq (.seq (.reg [⟨(some 20), .mv (.t 5), none, 196608, 0, []⟩,
   ⟨(some 21), .bin .lss (.t 20) (.k (.int .i64 0)), none, 196864, 1, []⟩])
 (.cond (.t 21)
  (.seq (.reg [⟨(some 4), .mv (.k (.bool true)), none, 262144, 0, []⟩])
  (.ret))
  (.skip)))
 (.seq (.reg [⟨(some 22), .load 3 true (.t 3), none, 327680, 0, []⟩,
   ⟨(some 23), .mv (.t 5), none, 327936, 1, []⟩,
   ⟨(some 24), .call 14 [(.t 22), (.t 23)] true, none, 328192, 2, []⟩,
   ⟨(some 5), .mv (.t 24), none, 328448, 3, []⟩])
 (.seq (.seq (.reg [⟨(some 25), .mv (.t 5), none, 393216, 0, []⟩,
   ⟨(some 26), .bin .lss (.t 25) (.k (.int .i64 0)), none, 393472, 1, []⟩])
 (.cond (.t 26)
  (.seq (.reg [⟨(some 4), .mv (.k (.bool true)), none, 458752, 0, []⟩])
  (.ret))
  (.skip)))
 (.seq (.reg [⟨(some 28), .load 3 true (.t 2), none, 524288, 0, []⟩,
   ⟨(some 29), .call 16 [(.t 28)] false, none, 524544, 1, [(.t 3)]⟩,
   ⟨(some 30), .load 3 true (.t 3), none, 524800, 2, []⟩,
   ⟨(some 31), .call 16 [(.t 30)] false, none, 525056, 3, []⟩,
   ⟨(some 32), .call 15 [(.t 29), (.t 31)] false, none, 525312, 4, []⟩,
   ⟨(some 27), .mv (.t 32), none, 525568, 5, []⟩,
   ⟨(some 33), .ext (.t 27) 0, none, 525824, 6, []⟩,
   ⟨(some 34), .ext (.t 27) 1, none, 526080, 7, []⟩,
   ⟨(some 6), .alloc [(.int .i64 0), (.int .i64 0), (.nil true 1)], none, 526336, 8, []⟩,
   ⟨none, .store 3 (.t 6) (.t 33), none, 526592, 9, []⟩,
   ⟨(some 7), .mv (.t 34), none, 526848, 10, []⟩])
 (.seq (.reg [⟨(some 35), .load 3 true (.t 2), none, 589824, 0, []⟩,
   ⟨(some 36), .call 16 [(.t 35)] false, none, 590080, 1, []⟩,
   ⟨(some 8), .alloc [(.int .i64 0), (.int .i64 0), (.nil true 1)], none, 590336, 2, []⟩,
   ⟨none, .store 3 (.t 8) (.t 36), none, 590592, 3, []⟩])
 (.seq (.reg [⟨(some 37), .load 3 true (.t 3), none, 655360, 0, []⟩,
   ⟨(some 38), .call 16 [(.t 37)] false, none, 655616, 1, []⟩,
   ⟨(some 9), .alloc [(.int .i64 0), (.int .i64 0), (.nil true 1)], none, 655872, 2, []⟩,
   ⟨none, .store 3 (.t 9) (.t 38), none, 656128, 3, []⟩])
 (.seq (.reg [⟨(some 40), .load 3 true (.t 8), none, 720896, 0, []⟩,
   ⟨(some 41), .load 3 true (.t 9), none, 721152, 1, []⟩,
   ⟨(some 42), .call 17 [(.t 40), (.t 41)] false, none, 721408, 2, []⟩,
   ⟨(some 39), .mv (.t 42), none, 721664, 3, []⟩,
   ⟨(some 43), .ext (.t 39) 0, none, 721920, 4, []⟩,
   ⟨(some 44), .ext (.t 39) 1, none, 722176, 5, []⟩,
   ⟨(some 10), .alloc [(.int .i64 0), (.int .i64 0), (.nil true 1)], none, 722432, 6, []⟩,
   ⟨none, .store 3 (.t 10) (.t 43), none, 722688, 7, []⟩,
   ⟨(some 11), .mv (.t 44), none, 722944, 8, []⟩])
 (.seq (.seq (.reg [⟨(some 45), .load 3 true (.t 10), none, 786432, 0, []⟩,
   ⟨(some 46), .load 3 true (.t 6), none, 786688, 1, []⟩,
   ⟨(some 47), .call 11 [(.t 45), (.t 46)] true, none, 786944, 2, []⟩,
   ⟨(some 48), .not (.t 47), none, 787200, 3, []⟩,
   ⟨(some 49), .mv (.t 48), none, 787456, 4, []⟩,
   ⟨(some 50), .mv (.t 11), (some (some 49, false)), 787712, 5, []⟩,
   ⟨(some 51), .mv (.t 7), (some (some 49, false)), 787968, 6, []⟩,
   ⟨(some 52), .bin .neq (.t 50) (.t 51), (some (some 49, false)), 788224, 7, []⟩,
   ⟨(some 53), .pick (.t 49) (.k (.bool true)) (.t 52), none, 788480, 8, []⟩])
 (.cond (.t 53)
  (.seq (.reg [⟨(some 4), .mv (.k (.bool false)), none, 851968, 0, []⟩])
  (.ret))
  (.skip)))
 (.seq (.seq (.reg [⟨(some 54), .load 3 true (.t 8), none, 917504, 0, []⟩,
   ⟨(some 55), .load 3 true (.t 2), none, 917760, 1, []⟩,
   ⟨(some 56), .call 16 [(.t 55)] false, none, 918016, 2, []⟩,
   ⟨(some 57), .call 11 [(.t 54), (.t 56)] true, none, 918272, 3, []⟩,
   ⟨(some 58), .not (.t 57), none, 918528, 4, []⟩])
 (.cond (.t 58)
  (.seq (.reg [⟨(some 4), .mv (.k (.bool false)), none, 983040, 0, []⟩])
  (.ret))
  (.skip)))
 (.seq (.seq (.reg [⟨(some 59), .load 3 true (.t 9), none, 1048576, 0, []⟩,
   ⟨(some 60), .load 3 true (.t 3), none, 1048832, 1, []⟩,
   ⟨(some 61), .call 16 [(.t 60)] false, none, 1049088, 2, []⟩,
   ⟨(some 62), .call 11 [(.t 59), (.t 61)] true, none, 1049344, 3, []⟩,
   ⟨(some 63), .not (.t 62), none, 1049600, 4, []⟩])
 (.cond (.t 63)
  (.seq (.reg [⟨(some 4), .mv (.k (.bool false)), none, 1114112, 0, []⟩])
  (.ret))
  (.skip)))
 (.seq (.reg [⟨(some 12), .mv (.k (.int .i64 1)), none, 1179648, 0, []⟩])
 (.seq (.reg [⟨(some 64), .load 3 true (.t 8), none, 1245184, 0, []⟩,
   ⟨(some 65), .mv (.t 12), none, 1245440, 1, []⟩,
   ⟨(some 66), .call 12 [(.t 64), (.t 65)] true, none, 1245696, 2, []⟩,
   ⟨(some 12), .mv (.t 66), none, 1245952, 3, []⟩])
 (.seq (.reg [⟨(some 67), .load 3 true (.t 9), none, 1310720, 0, []⟩,
   ⟨(some 68), .mv (.t 12), none, 1310976, 1, []⟩,
   ⟨(some 69), .call 12 [(.t 67), (.t 68)] true, none, 1311232, 2, []⟩,
   ⟨(some 12), .mv (.t 69), none, 1311488, 3, []⟩])
 (.seq (.seq (.reg [⟨(some 70), .mv (.t 12), none, 1376256, 0, []⟩,
   ⟨(some 71), .bin .lss (.t 70) (.k (.int .i64 0)), none, 1376512, 1, []⟩,
   ⟨(some 72), .mv (.t 71), none, 1376768, 2, []⟩,
   ⟨(some 73), .load 3 true (.t 10), (some (some 72, false)), 1377024, 3, []⟩,
   ⟨(some 74), .load 3 true (.t 6), (some (some 72, false)), 1377280, 4, []⟩,
   ⟨(some 75), .call 11 [(.t 73), (.t 74)] true, (some (some 72, false)), 1377536, 5, []⟩,
   ⟨(some 76), .not (.t 75), (some (some 72, false)), 1377792, 6, []⟩,
   ⟨(some 77), .pick (.t 72) (.k (.bool true)) (.t 76), none, 1378048, 7, []⟩,
   ⟨(some 78), .mv (.t 77), none, 1378304, 8, []⟩,
   ⟨(some 79), .mv (.t 11), (some (some 78, false)), 1378560, 9, []⟩,
   ⟨(some 80), .mv (.t 7), (some (some 78, false)), 1378816, 10, []⟩,
   ⟨(some 81), .bin .neq (.t 79) (.t 80), (some (some 78, false)), 1379072, 11, []⟩,
   ⟨(some 82), .pick (.t 78) (.k (.bool true)) (.t 81), none, 1379328, 12, []⟩])
 (.cond (.t 82)
  (.seq (.reg [⟨(some 4), .mv (.k (.bool false)), none, 1441792, 0, []⟩])
  (.ret))
  (.skip)))
 (.seq (.reg [⟨(some 13), .mv (.k (.int .i64 1)), none, 1507328, 0, []⟩])
 (.seq (.reg [⟨(some 83), .load 3 true (.t 10), none, 1572864, 0, []⟩,
   ⟨(some 84), .mv (.t 13), none, 1573120, 1, []⟩,
   ⟨(some 85), .call 12 [(.t 83), (.t 84)] true, none, 1573376, 2, []⟩,
   ⟨(some 13), .mv (.t 85), none, 1573632, 3, []⟩])
 (.seq (.reg [⟨(some 14), .mv (.k (.int .i64 1)), none, 1638400, 0, []⟩])
 (.seq (.reg [⟨(some 86), .load 3 true (.t 10), none, 1703936, 0, []⟩,
   ⟨(some 87), .mv (.t 14), none, 1704192, 1, []⟩,
   ⟨(some 88), .call 13 [(.t 86), (.t 87)] true, none, 1704448, 2, []⟩,
   ⟨(some 14), .mv (.t 88), none, 1704704, 3, []⟩])
 (.seq (.seq (.reg [⟨(some 89), .mv (.t 14), none, 1769472, 0, []⟩,
   ⟨(some 90), .bin .lss (.t 89) (.k (.int .i64 0)), none, 1769728, 1, []⟩])
 (.cond (.t 90)
  (.seq (.reg [⟨(some 4), .mv (.k (.bool false)), none, 1835008, 0, []⟩])
  (.ret))
  (.skip)))
 (.seq (.seq (.reg [⟨(some 91), .mv (.t 14), none, 1900544, 0, []⟩,
   ⟨(some 92), .mv (.t 13), none, 1900800, 1, []⟩,
   ⟨(some 93), .bin .neq (.t 91) (.t 92), none, 1901056, 2, []⟩])
 (.cond (.t 93)
  (.seq (.reg [⟨(some 4), .mv (.k (.bool false)), none, 1966080, 0, []⟩])
  (.ret))
  (.skip)))
 (.seq (.reg [⟨(some 95), .load 3 true (.t 2), none, 2031616, 0, []⟩,
   ⟨(some 96), .call 16 [(.t 95)] false, none, 2031872, 1, [(.t 3)]⟩,
   ⟨(some 97), .load 3 true (.t 3), none, 2032128, 2, []⟩,
   ⟨(some 98), .call 16 [(.t 97)] false, none, 2032384, 3, []⟩,
   ⟨(some 99), .call 17 [(.t 96), (.t 98)] false, none, 2032640, 4, []⟩,
   ⟨(some 94), .mv (.t 99), none, 2032896, 5, []⟩,
   ⟨(some 100), .ext (.t 94) 0, none, 2033152, 6, []⟩,
   ⟨(some 101), .ext (.t 94) 1, none, 2033408, 7, []⟩,
   ⟨(some 15), .alloc [(.int .i64 0), (.int .i64 0), (.nil true 1)], none, 2033664, 8, []⟩,
   ⟨none, .store 3 (.t 15) (.t 100), none, 2033920, 9, []⟩,
   ⟨(some 16), .mv (.t 101), none, 2034176, 10, []⟩])
 (.seq (.seq (.reg [⟨(some 102), .load 3 true (.t 15), none, 2097152, 0, []⟩,
   ⟨(some 103), .load 3 true (.t 6), none, 2097408, 1, []⟩,
   ⟨(some 104), .call 11 [(.t 102), (.t 103)] true, none, 2097664, 2, []⟩,
   ⟨(some 105), .not (.t 104), none, 2097920, 3, []⟩,
   ⟨(some 106), .mv (.t 105), none, 2098176, 4, []⟩,
   ⟨(some 107), .mv (.t 16), (some (some 106, false)), 2098432, 5, []⟩,
   ⟨(some 108), .mv (.t 7), (some (some 106, false)), 2098688, 6, []⟩,
   ⟨(some 109), .bin .neq (.t 107) (.t 108), (some (some 106, false)), 2098944, 7, []⟩,
   ⟨(some 110), .pick (.t 106) (.k (.bool true)) (.t 109), none, 2099200, 8, []⟩])
 (.cond (.t 110)
  (.seq (.reg [⟨(some 4), .mv (.k (.bool false)), none, 2162688, 0, []⟩])
  (.ret))
  (.skip)))
 (.seq (.reg [⟨(some 14), .mv (.k (.int .i64 1)), none, 2228224, 0, []⟩])
 (.seq (.reg [⟨(some 111), .load 3 true (.t 10), none, 2293760, 0, []⟩,
   ⟨(some 112), .mv (.t 14), none, 2294016, 1, []⟩,
   ⟨(some 113), .call 13 [(.t 111), (.t 112)] true, none, 2294272, 2, []⟩,
   ⟨(some 14), .mv (.t 113), none, 2294528, 3, []⟩])
 (.seq (.seq (.reg [⟨(some 114), .mv (.t 14), none, 2359296, 0, []⟩,
   ⟨(some 115), .bin .lss (.t 114) (.k (.int .i64 0)), none, 2359552, 1, []⟩])
 (.cond (.t 115)
  (.seq (.reg [⟨(some 4), .mv (.k (.bool false)), none, 2424832, 0, []⟩])
  (.ret))
  (.skip)))
 (.seq (.seq (.reg [⟨(some 116), .mv (.t 14), none, 2490368, 0, []⟩,
   ⟨(some 117), .mv (.t 13), none, 2490624, 1, []⟩,
   ⟨(some 118), .bin .neq (.t 116) (.t 117), none, 2490880, 2, []⟩])
 (.cond (.t 118)
  (.seq (.reg [⟨(some 4), .mv (.k (.bool false)), none, 2555904, 0, []⟩])
  (.ret))
  (.skip)))
 (.seq (.reg [⟨(some 4), .mv (.k (.bool true)), none, 2621440, 0, []⟩])
 (.ret))))))))))))))))))))))))))))))⟩
/-- loop.example/g00849/spec.CodeMatrix -/
def F9 : F := ⟨2, 26, [.cell 4 3 true, .t 5],
 .seq (.reg [⟨(some 4), .alloc [(.int .i64 0), (.int .i64 0), (.nil true 1)], none, 0, 0, []⟩,
   ⟨(some 5), .mv (.k (.int .i64 0)), none, 256, 1, []⟩])
 (.seq (.seq (.reg [⟨(some 6), .mv (.t 0), none, 65536, 0, []⟩,
   ⟨(some 7), .bin .lss (.t 6) (.k (.int .i64 1)), none, 65792, 1, []⟩,
   ⟨(some 8), .mv (.t 7), none, 66048, 2, []⟩,
   ⟨(some 9), .mv (.t 1), (some (some 8, false)), 66304, 3, []⟩,
   ⟨(some 10), .bin .lss (.t 9) (.k (.int .i64 0)), (some (some 8, false)), 66560, 4, []⟩,
   ⟨(some 11), .pick (.t 8) (.k (.bool true)) (.t 10), none, 66816, 5, []⟩,
   ⟨(some 12), .mv (.t 11), none, 67072, 6, []⟩,
   ⟨(some 13), .mv (.t 0), (some (some 12, false)), 67328, 7, []⟩,
   ⟨(some 14), .bin .gtr (.t 13) (.k (.int .i64 8)), (some (some 12, false)), 67584, 8, []⟩,
   ⟨(some 15), .pick (.t 12) (.k (.bool true)) (.t 14), none, 67840, 9, []⟩,
   ⟨(some 16), .mv (.t 15), none, 68096, 10, []⟩,
   ⟨(some 17), .mv (.t 1), (some (some 16, false)), 68352, 11, []⟩,
   ⟨(some 18), .mv (.t 0), (some (some 16, false)), 68608, 12, []⟩,
   ⟨(some 19), .bin .sub (.k (.int .i64 8)) (.t 18), (some (some 16, false)), 68864, 13, []⟩,
   ⟨(some 20), .bin .gtr (.t 17) (.t 19), (some (some 16, false)), 69120, 14, []⟩,
   ⟨(some 21), .pick (.t 16) (.k (.bool true)) (.t 20), none, 69376, 15, []⟩])
 (.cond (.t 21)
  (.seq (.reg [⟨(some 22), .build [(.int .i64 0), (.int .i64 0), (.nil true 1)] [], none, 131072, 0, []⟩,
    ⟨none, .store 3 (.t 4) (.t 22), none, 131328, 1, []⟩,
    ⟨(some 5), .mv (.k (.int .i64 2)), none, 131584, 2, []⟩])
  (.ret))
  (.skip)))
 (.seq (.reg [⟨(some 23), .mv (.t 0), none, 196608, 0, []⟩,
   ⟨(some 24), .mv (.t 1), none, 196864, 1, []⟩,
   ⟨(some 25), .call 29 [(.t 23), (.t 24)] false, none, 197120, 2, []⟩,
   ⟨none, .store 3 (.t 4) (.t 25), none, 197376, 3, []⟩,
   ⟨(some 5), .mv (.k (.int .i64 0)), none, 197632, 4, []⟩])
 (.ret)))⟩
/-- loop.example/g00849/impl.CodeMatrix -/
def F10 : F := ⟨2, 20, [.cell 4 3 true, .t 5],
 .seq (.reg [⟨(some 4), .alloc [(.int .i64 0), (.int .i64 0), (.nil true 1)], none, 0, 0, []⟩,
   ⟨(some 5), .mv (.k (.int .i64 0)), none, 256, 1, []⟩])
 (.seq (.seq (.reg [⟨(some 6), .mv (.t 0), none, 65536, 0, []⟩,
   ⟨(some 7), .call 30 [(.t 6), (.k (.int .i64 1)), (.k (.int .i64 8))] true, none, 65792, 1, []⟩,
   ⟨(some 8), .not (.t 7), none, 66048, 2, []⟩,
   ⟨(some 9), .mv (.t 8), none, 66304, 3, []⟩,
   ⟨(some 10), .mv (.t 1), (some (some 9, false)), 66560, 4, []⟩,
   ⟨(some 11), .mv (.t 0), (some (some 9, false)), 66816, 5, []⟩,
   ⟨(some 12), .bin .sub (.k (.int .i64 8)) (.t 11), (some (some 9, false)), 67072, 6, []⟩,
   ⟨(some 13), .call 30 [(.t 10), (.k (.int .i64 0)), (.t 12)] true, (some (some 9, false)), 67328, 7, []⟩,
   ⟨(some 14), .not (.t 13), (some (some 9, false)), 67584, 8, []⟩,
   ⟨(some 15), .pick (.t 9) (.k (.bool true)) (.t 14), none, 67840, 9, []⟩])
 (.cond (.t 15)
  (.seq (.reg [⟨(some 16), .build [(.int .i64 0), (.int .i64 0), (.nil true 1)] [], none, 131072, 0, []⟩,
    ⟨none, .store 3 (.t 4) (.t 16), none, 131328, 1, []⟩,
    ⟨(some 5), .mv (.k (.int .i64 2)), none, 131584, 2, []⟩])
  (.ret))
  (.skip)))
 (.seq (.reg [⟨(some 17), .mv (.t 0), none, 196608, 0, []⟩,
   ⟨(some 18), .mv (.t 1), none, 196864, 1, []⟩,
   ⟨(some 19), .call 31 [(.t 17), (.t 18)] false, none, 197120, 2, []⟩,
   ⟨none, .store 3 (.t 4) (.t 19), none, 197376, 3, []⟩,
   ⟨(some 5), .mv (.k (.int .i64 0)), none, 197632, 4, []⟩])
 (.ret)))⟩
/-- loop.example/g00849/laws.eqMatrix -/
def F11 : F := ⟨2, 21, [.t 4],
 .seq (.reg [⟨(some 2), .box (.t 0), none, 0, 0, []⟩,
   ⟨(some 3), .box (.t 1), none, 256, 1, []⟩,
   ⟨(some 4), .mv (.k (.bool false)), none, 512, 2, []⟩])
 (.seq (.seq (.reg [⟨(some 5), .faddr 0 (.t 2), none, 65536, 0, []⟩,
   ⟨(some 6), .load 1 false (.t 5), none, 65792, 1, []⟩,
   ⟨(some 7), .faddr 0 (.t 3), none, 66048, 2, []⟩,
   ⟨(some 8), .load 1 false (.t 7), none, 66304, 3, []⟩,
   ⟨(some 9), .bin .neq (.t 6) (.t 8), none, 66560, 4, []⟩])
 (.cond (.t 9)
  (.seq (.reg [⟨(some 4), .mv (.k (.bool false)), none, 131072, 0, []⟩])
  (.ret))
  (.skip)))
 (.seq (.seq (.reg [⟨(some 10), .faddr 1 (.t 2), none, 196608, 0, []⟩,
   ⟨(some 11), .load 1 false (.t 10), none, 196864, 1, []⟩,
   ⟨(some 12), .faddr 1 (.t 3), none, 197120, 2, []⟩,
   ⟨(some 13), .load 1 false (.t 12), none, 197376, 3, []⟩,
   ⟨(some 14), .bin .neq (.t 11) (.t 13), none, 197632, 4, []⟩])
 (.cond (.t 14)
  (.seq (.reg [⟨(some 4), .mv (.k (.bool false)), none, 262144, 0, []⟩])
  (.ret))
  (.skip)))
 (.seq (.seq (.reg [⟨(some 15), .faddr 2 (.t 2), none, 327680, 0, []⟩,
   ⟨(some 16), .load 1 false (.t 15), none, 327936, 1, []⟩,
   ⟨(some 17), .faddr 2 (.t 3), none, 328192, 2, []⟩,
   ⟨(some 18), .load 1 false (.t 17), none, 328448, 3, []⟩,
   ⟨(some 19), .call 32 [(.t 16), (.t 18)] true, none, 328704, 4, []⟩,
   ⟨(some 20), .not (.t 19), none, 328960, 5, []⟩])
 (.cond (.t 20)
  (.seq (.reg [⟨(some 4), .mv (.k (.bool false)), none, 393216, 0, []⟩])
  (.ret))
  (.skip)))
 (.seq (.reg [⟨(some 4), .mv (.k (.bool true)), none, 458752, 0, []⟩])
 (.ret)))))⟩
/-- loop.example/g00849/laws.markMatrix -/
def F12 : F := ⟨2, 10, [.t 4],
 .seq (.reg [⟨(some 2), .box (.t 0), none, 0, 0, []⟩,
   ⟨(some 4), .mv (.k (.int .i64 0)), none, 256, 1, []⟩])
 (.seq (.reg [⟨(some 5), .faddr 2 (.t 2), none, 65536, 0, []⟩,
   ⟨(some 6), .load 1 false (.t 5), none, 65792, 1, []⟩,
   ⟨(some 7), .mv (.t 1), none, 66048, 2, []⟩,
   ⟨(some 8), .call 33 [(.t 6), (.t 7)] true, none, 66304, 3, []⟩,
   ⟨(some 1), .mv (.t 8), none, 66560, 4, []⟩])
 (.seq (.reg [⟨(some 9), .mv (.t 1), none, 131072, 0, []⟩,
   ⟨(some 4), .mv (.t 9), none, 131328, 1, []⟩])
 (.ret)))⟩
/-- loop.example/g00849/laws.heldMatrix -/
def F13 : F := ⟨2, 12, [.t 4],
 .seq (.reg [⟨(some 2), .box (.t 0), none, 0, 0, []⟩,
   ⟨(some 4), .mv (.k (.int .i64 0)), none, 256, 1, []⟩])
 (.seq (.reg [⟨(some 5), .faddr 2 (.t 2), none, 65536, 0, []⟩,
   ⟨(some 6), .load 1 false (.t 5), none, 65792, 1, []⟩,
   ⟨(some 7), .mv (.t 1), none, 66048, 2, []⟩,
   ⟨(some 8), .call 34 [(.t 6), (.t 7)] true, none, 66304, 3, []⟩,
   ⟨(some 1), .mv (.t 8), none, 66560, 4, []⟩])
 (.seq (.seq (.reg [⟨(some 9), .mv (.t 1), none, 131072, 0, []⟩,
   ⟨(some 10), .bin .lss (.t 9) (.k (.int .i64 0)), none, 131328, 1, []⟩])
 (.cond (.t 10)
  (.seq (.reg [⟨(some 4), .mv (.k (.int .i64 (-1))), none, 196608, 0, []⟩])
  (.ret))
  (.skip)))
 (.seq (.reg [⟨(some 11), .mv (.t 1), none, 262144, 0, []⟩,
   ⟨(some 4), .mv (.t 11), none, 262400, 1, []⟩])
 (.ret))))⟩
/-- loop.example/g00849/laws.szMatrix -/
def F14 : F := ⟨2, 12, [.t 4],
 .seq (.reg [⟨(some 2), .box (.t 0), none, 0, 0, []⟩,
   ⟨(some 4), .mv (.k (.int .i64 0)), none, 256, 1, []⟩])
 (.seq (.reg [⟨(some 5), .faddr 2 (.t 2), none, 65536, 0, []⟩,
   ⟨(some 6), .load 1 false (.t 5), none, 65792, 1, []⟩,
   ⟨(some 7), .mv (.t 1), none, 66048, 2, []⟩,
   ⟨(some 8), .call 35 [(.t 6), (.t 7)] true, none, 66304, 3, []⟩,
   ⟨(some 1), .mv (.t 8), none, 66560, 4, []⟩])
 (.seq (.seq (.reg [⟨(some 9), .mv (.t 1), none, 131072, 0, []⟩,
   ⟨(some 10), .bin .lss (.t 9) (.k (.int .i64 0)), none, 131328, 1, []⟩])
 (.cond (.t 10)
  (.seq (.reg [⟨(some 4), .mv (.k (.int .i64 (-1))), none, 196608, 0, []⟩])
  (.ret))
  (.skip)))
 (.seq (.reg [⟨(some 11), .mv (.t 1), none, 262144, 0, []⟩,
   ⟨(some 4), .mv (.t 11), none, 262400, 1, []⟩])
 (.ret))))⟩
/-- loop.example/g00849/spec.MatMul -/
def F15 : F := ⟨2, 24, [.cell 4 3 true, .t 5],
 .seq (.reg [⟨(some 2), .box (.t 0), none, 0, 0, []⟩,
   ⟨(some 3), .box (.t 1), none, 256, 1, []⟩,
   ⟨(some 4), .alloc [(.int .i64 0), (.int .i64 0), (.nil true 1)], none, 512, 2, []⟩,
   ⟨(some 5), .mv (.k (.int .i64 0)), none, 768, 3, []⟩])
 (.seq (.seq (.reg [⟨(some 6), .load 3 true (.t 2), none, 65536, 0, []⟩,
   ⟨(some 7), .call 36 [(.t 6)] true, none, 65792, 1, []⟩,
   ⟨(some 8), .not (.t 7), none, 66048, 2, []⟩,
   ⟨(some 9), .mv (.t 8), none, 66304, 3, []⟩,
   ⟨(some 10), .load 3 true (.t 3), (some (some 9, false)), 66560, 4, []⟩,
   ⟨(some 11), .call 36 [(.t 10)] true, (some (some 9, false)), 66816, 5, []⟩,
   ⟨(some 12), .not (.t 11), (some (some 9, false)), 67072, 6, []⟩,
   ⟨(some 13), .pick (.t 9) (.k (.bool true)) (.t 12), none, 67328, 7, []⟩])
 (.cond (.t 13)
  (.seq (.reg [⟨(some 14), .build [(.int .i64 0), (.int .i64 0), (.nil true 1)] [], none, 131072, 0, []⟩,
    ⟨none, .store 3 (.t 4) (.t 14), none, 131328, 1, []⟩,
    ⟨(some 5), .mv (.k (.int .i64 1)), none, 131584, 2, []⟩])
  (.ret))
  (.skip)))
 (.seq (.seq (.reg [⟨(some 15), .faddr 1 (.t 2), none, 196608, 0, []⟩,
   ⟨(some 16), .load 1 false (.t 15), none, 196864, 1, []⟩,
   ⟨(some 17), .faddr 0 (.t 3), none, 197120, 2, []⟩,
   ⟨(some 18), .load 1 false (.t 17), none, 197376, 3, []⟩,
   ⟨(some 19), .bin .neq (.t 16) (.t 18), none, 197632, 4, []⟩])
 (.cond (.t 19)
  (.seq (.reg [⟨(some 20), .build [(.int .i64 0), (.int .i64 0), (.nil true 1)] [], none, 262144, 0, []⟩,
    ⟨none, .store 3 (.t 4) (.t 20), none, 262400, 1, []⟩,
    ⟨(some 5), .mv (.k (.int .i64 2)), none, 262656, 2, []⟩])
  (.ret))
  (.skip)))
 (.seq (.reg [⟨(some 21), .load 3 true (.t 2), none, 327680, 0, []⟩,
   ⟨(some 22), .load 3 true (.t 3), none, 327936, 1, []⟩,
   ⟨(some 23), .call 37 [(.t 21), (.t 22)] false, none, 328192, 2, []⟩,
   ⟨none, .store 3 (.t 4) (.t 23), none, 328448, 3, []⟩,
   ⟨(some 5), .mv (.k (.int .i64 0)), none, 328704, 4, []⟩])
 (.ret))))⟩
/-- loop.example/g00849/laws.toMatrix -/
def F16 : F := ⟨1, 15, [.cell 2 3 true],
 .seq (.reg [⟨(some 1), .box (.t 0), none, 0, 0, []⟩,
   ⟨(some 2), .alloc [(.int .i64 0), (.int .i64 0), (.nil true 1)], none, 256, 1, []⟩])
 (.seq (.reg [⟨(some 3), .alloc [(.int .i64 0), (.int .i64 0), (.nil true 1)], none, 65536, 0, []⟩])
 (.seq (.reg [⟨(some 4), .faddr 0 (.t 1), none, 131072, 0, []⟩,
   ⟨(some 5), .load 1 false (.t 4), none, 131328, 1, []⟩,
   ⟨(some 6), .faddr 0 (.t 3), none, 131584, 2, []⟩,
   ⟨none, .store 1 (.t 6) (.t 5), none, 131840, 3, []⟩])
 (.seq (.reg [⟨(some 7), .faddr 1 (.t 1), none, 196608, 0, []⟩,
   ⟨(some 8), .load 1 false (.t 7), none, 196864, 1, []⟩,
   ⟨(some 9), .faddr 1 (.t 3), none, 197120, 2, []⟩,
   ⟨none, .store 1 (.t 9) (.t 8), none, 197376, 3, []⟩])
 (.seq (.reg [⟨(some 10), .faddr 2 (.t 1), none, 262144, 0, []⟩,
   ⟨(some 11), .load 1 false (.t 10), none, 262400, 1, []⟩,
   ⟨(some 12), .call 38 [(.t 11)] false, none, 262656, 2, []⟩,
   ⟨(some 13), .faddr 2 (.t 3), none, 262912, 3, []⟩,
   ⟨none, .store 1 (.t 13) (.t 12), none, 263168, 4, []⟩])
 (.seq (.reg [⟨(some 14), .load 3 true (.t 3), none, 327680, 0, []⟩,
   ⟨none, .store 3 (.t 2) (.t 14), none, 327936, 1, []⟩])
 (.ret))))))⟩
/-- loop.example/g00849/impl.MatMul -/
def F17 : F := ⟨2, 73, [.cell 4 3 true, .t 5],
 .seq (.reg [⟨(some 2), .box (.t 0), none, 0, 0, []⟩,
   ⟨(some 3), .box (.t 1), none, 256, 1, []⟩,
   ⟨(some 4), .alloc [(.int .i64 0), (.int .i64 0), (.nil true 1)], none, 512, 2, []⟩,
   ⟨(some 5), .mv (.k (.int .i64 0)), none, 768, 3, []⟩])
 (.seq (.block 0 (.seq (.reg [⟨(some 13), .load 3 true (.t 2), none, 65536, 0, []⟩,
   ⟨(some 14), .call 39 [(.t 13)] true, none, 65792, 1, []⟩,
   ⟨(some 15), .not (.t 14), none, 66048, 2, []⟩,
   ⟨(some 16), .mv (.t 15), none, 66304, 3, []⟩,
   ⟨(some 17), .load 3 true (.t 3), (some (some 16, false)), 66560, 4, []⟩,
   ⟨(some 18), .call 39 [(.t 17)] true, (some (some 16, false)), 66816, 5, []⟩,
   ⟨(some 19), .not (.t 18), (some (some 16, false)), 67072, 6, []⟩,
   ⟨(some 20), .pick (.t 16) (.k (.bool true)) (.t 19), none, 67328, 7, []⟩,
   ⟨(some 12), .mv (.t 20), none, 67584, 8, []⟩])
 (.cond (.t 12)
  (.seq (.reg [⟨(some 21), .build [(.int .i64 0), (.int .i64 0), (.nil true 1)] [], none, 131072, 0, []⟩,
    ⟨none, .store 3 (.t 4) (.t 21), none, 131328, 1, []⟩,
    ⟨(some 5), .mv (.k (.int .i64 1)), none, 131584, 2, []⟩])
  (.ret))
  (.seq (.reg [⟨(some 23), .faddr 0 (.t 3), none, 196608, 0, []⟩,
    ⟨(some 24), .load 1 false (.t 23), none, 196864, 1, []⟩,
    ⟨(some 25), .faddr 1 (.t 2), none, 197120, 2, []⟩,
    ⟨(some 26), .load 1 false (.t 25), none, 197376, 3, []⟩,
    ⟨(some 27), .bin .neq (.t 24) (.t 26), none, 197632, 4, []⟩,
    ⟨(some 22), .mv (.t 27), none, 197888, 5, []⟩])
  (.cond (.t 22)
   (.seq (.reg [⟨(some 28), .build [(.int .i64 0), (.int .i64 0), (.nil true 1)] [], none, 262144, 0, []⟩,
     ⟨none, .store 3 (.t 4) (.t 28), none, 262400, 1, []⟩,
     ⟨(some 5), .mv (.k (.int .i64 2)), none, 262656, 2, []⟩])
   (.ret))
   (.skip))))))
 (.seq (.reg [⟨(some 29), .faddr 0 (.t 2), none, 327680, 0, []⟩,
   ⟨(some 30), .load 1 false (.t 29), none, 327936, 1, []⟩,
   ⟨(some 31), .faddr 1 (.t 3), none, 328192, 2, []⟩,
   ⟨(some 32), .load 1 false (.t 31), none, 328448, 3, []⟩,
   ⟨(some 33), .build [(.int .i64 0), (.int .i64 0), (.nil true 1)] [(0, 1, (.t 30)), (1, 1, (.t 32))], none, 328704, 4, []⟩,
   ⟨(some 6), .alloc [(.int .i64 0), (.int .i64 0), (.nil true 1)], none, 328960, 5, []⟩,
   ⟨none, .store 3 (.t 6) (.t 33), none, 329216, 6, []⟩])
 (.seq (.seq (.reg [⟨(some 34), .faddr 0 (.t 2), none, 393216, 0, []⟩,
   ⟨(some 35), .load 1 false (.t 34), none, 393472, 1, []⟩,
   ⟨(some 36), .mv (.k (.int .i64 0)), none, 393728, 2, []⟩])
 (.block 1 (.loop [2, 3, 4, 6, 35, 36] [0, 1, 2, 3, 4, 5, 256, 257, 258, 259, 260, 261, 512, 515, 131329, 131330, 131331, 262401, 262402, 262403, 328960, 328963, 329217, 329218, 329219, 1376513, 1376514, 1376515]
  (.seq (.reg [⟨(some 37), .bin .lss (.t 36) (.t 35), none, 458752, 0, []⟩])
  (.seq (.cond (.t 37)
   (.skip)
   (.exit 1))
  (.seq (.block 2 (.seq (.reg [⟨(some 38), .mv (.t 36), none, 524288, 0, []⟩,
    ⟨(some 7), .mv (.t 38), none, 524544, 1, []⟩])
  (.seq (.reg [⟨(some 39), .faddr 1 (.t 3), none, 589824, 0, []⟩,
    ⟨(some 40), .load 1 false (.t 39), none, 590080, 1, []⟩,
    ⟨(some 41), .mv (.k (.int .i64 0)), none, 590336, 2, []⟩])
  (.block 3 (.loop [2, 3, 4, 6, 7, 35, 36, 40, 41] [0, 1, 2, 3, 4, 5, 256, 257, 258, 259, 260, 261, 512, 515, 131329, 131330, 131331, 262401, 262402, 262403, 328960, 328963, 329217, 329218, 329219, 1376513, 1376514, 1376515]
   (.seq (.reg [⟨(some 42), .bin .lss (.t 41) (.t 40), none, 655360, 0, []⟩])
   (.seq (.cond (.t 42)
    (.skip)
    (.exit 3))
   (.seq (.block 4 (.seq (.reg [⟨(some 43), .mv (.t 41), none, 720896, 0, []⟩,
     ⟨(some 8), .mv (.t 43), none, 721152, 1, []⟩])
   (.seq (.reg [⟨(some 9), .mv (.k (.int .i64 0)), none, 786432, 0, []⟩])
   (.seq (.seq (.reg [⟨(some 44), .load 3 true (.t 2), none, 851968, 0, []⟩,
     ⟨(some 45), .mv (.t 7), none, 852224, 1, []⟩,
     ⟨(some 46), .call 40 [(.t 44), (.t 45)] false, none, 852480, 2, []⟩,
     ⟨(some 47), .len false (.t 46), none, 852736, 3, []⟩,
     ⟨(some 48), .mv (.k (.int .i64 0)), none, 852992, 4, []⟩])
   (.block 5 (.loop [2, 3, 4, 6, 7, 8, 9, 35, 36, 40, 41, 46, 47, 48] [0, 1, 2, 3, 4, 5, 256, 257, 258, 259, 260, 261, 512, 515, 131329, 131330, 131331, 262401, 262402, 262403, 328960, 328963, 329217, 329218, 329219, 852480, 852481, 852482, 852483, 1180416, 1180672, 1181185, 1376513, 1376514, 1376515]
    (.seq (.reg [⟨(some 49), .bin .lss (.t 48) (.t 47), none, 917504, 0, []⟩])
    (.seq (.cond (.t 49)
     (.skip)
     (.exit 5))
    (.seq (.block 6 (.seq (.reg [⟨(some 50), .mv (.t 48), none, 983040, 0, []⟩,
      ⟨(some 51), .iaddr 1 (.t 46) (.t 48), none, 983296, 1, []⟩,
      ⟨(some 52), .load 1 false (.t 51), none, 983552, 2, []⟩,
      ⟨(some 10), .mv (.t 50), none, 983808, 3, []⟩,
      ⟨(some 11), .mv (.t 52), none, 984064, 4, []⟩])
    (.reg [⟨(some 53), .mv (.t 9), none, 1048576, 0, []⟩,
      ⟨(some 54), .mv (.t 11), none, 1048832, 1, []⟩,
      ⟨(some 55), .load 3 true (.t 3), none, 1049088, 2, []⟩,
      ⟨(some 56), .mv (.t 10), none, 1049344, 3, []⟩,
      ⟨(some 57), .call 40 [(.t 55), (.t 56)] false, none, 1049600, 4, []⟩,
      ⟨(some 58), .mv (.t 8), none, 1049856, 5, []⟩,
      ⟨(some 59), .iaddr 1 (.t 57) (.t 58), none, 1050112, 6, []⟩,
      ⟨(some 60), .load 1 false (.t 59), none, 1050368, 7, []⟩,
      ⟨(some 61), .call 41 [(.t 54), (.t 60)] true, none, 1050624, 8, []⟩,
      ⟨(some 62), .bin .xor (.t 53) (.t 61), none, 1050880, 9, []⟩,
      ⟨(some 9), .mv (.t 62), none, 1051136, 10, []⟩])))
    (.reg [⟨(some 63), .bin .add (.t 48) (.k (.int .i64 1)), none, 1114112, 0, []⟩,
      ⟨(some 48), .mv (.t 63), none, 1114368, 1, []⟩])))))))
   (.reg [⟨(some 64), .faddr 2 (.t 6), none, 1179648, 0, []⟩,
     ⟨(some 65), .load 1 false (.t 64), none, 1179904, 1, []⟩,
     ⟨(some 66), .mv (.t 9), none, 1180160, 2, []⟩,
     ⟨(some 67), .bslice true 1 [(.int .i64 0)] 1 [(0, (.t 66))], none, 1180416, 3, []⟩,
     ⟨(some 68), .app true 1 8 (.t 65) (.t 67), none, 1180672, 4, []⟩,
     ⟨(some 69), .faddr 2 (.t 6), none, 1180928, 5, []⟩,
     ⟨none, .store 1 (.t 69) (.t 68), none, 1181184, 6, []⟩])))))
   (.reg [⟨(some 70), .bin .add (.t 41) (.k (.int .i64 1)), none, 1245184, 0, []⟩,
     ⟨(some 41), .mv (.t 70), none, 1245440, 1, []⟩])))))))))
  (.reg [⟨(some 71), .bin .add (.t 36) (.k (.int .i64 1)), none, 1310720, 0, []⟩,
    ⟨(some 36), .mv (.t 71), none, 1310976, 1, []⟩])))))))
 (.seq (.reg [⟨(some 72), .load 3 true (.t 6), none, 1376256, 0, []⟩,
   ⟨none, .store 3 (.t 4) (.t 72), none, 1376512, 1, []⟩,
   ⟨(some 5), .mv (.k (.int .i64 0)), none, 1376768, 2, []⟩])
 (.ret)))))⟩
/-- loop.example/g00849/spec.l03Code -/
def F29 : F := ⟨2, 40, [.cell 4 3 true],
 .seq (.reg [⟨(some 4), .alloc [(.int .i64 0), (.int .i64 0), (.nil true 1)], none, 0, 0, []⟩])
 (.seq (.reg [⟨(some 8), .mv (.t 0), none, 65536, 0, []⟩,
   ⟨(some 9), .call 55 [(.t 8)] false, none, 65792, 1, []⟩,
   ⟨(some 5), .alloc [(.int .i64 0), (.int .i64 0), (.nil true 1)], none, 66048, 2, []⟩,
   ⟨none, .store 3 (.t 5) (.t 9), none, 66304, 3, []⟩])
 (.seq (.reg [⟨(some 10), .mv (.t 0), none, 131072, 0, []⟩,
   ⟨(some 11), .mv (.t 1), none, 131328, 1, []⟩,
   ⟨(some 12), .bin .add (.t 10) (.t 11), none, 131584, 2, []⟩,
   ⟨(some 13), .faddr 0 (.t 5), none, 131840, 3, []⟩,
   ⟨none, .store 1 (.t 13) (.t 12), none, 132096, 4, []⟩])
 (.seq (.seq (.reg [⟨(some 6), .mv (.k (.int .i64 0)), none, 196608, 0, []⟩])
 (.block 0 (.loop [0, 1, 4, 5, 6] [0, 3, 65792, 65793, 65794, 65795, 66048, 66051, 66305, 66306, 66307, 132097, 655617, 655618, 655619]
  (.seq (.seq (.reg [⟨(some 14), .mv (.t 6), none, 262144, 0, []⟩,
    ⟨(some 15), .mv (.t 1), none, 262400, 1, []⟩,
    ⟨(some 16), .bin .lss (.t 14) (.t 15), none, 262656, 2, []⟩])
  (.cond (.t 16)
   (.skip)
   (.exit 0)))
  (.seq (.block 1 (.seq (.reg [⟨(some 7), .mv (.k (.int .i64 0)), none, 393216, 0, []⟩])
  (.block 2 (.loop [0, 1, 4, 5, 6, 7] [0, 3, 65792, 65793, 65794, 65795, 66048, 66051, 66305, 66306, 66307, 132097, 655617, 655618, 655619]
   (.seq (.seq (.reg [⟨(some 19), .mv (.t 7), none, 458752, 0, []⟩,
     ⟨(some 20), .mv (.t 0), none, 459008, 1, []⟩,
     ⟨(some 21), .bin .lss (.t 19) (.t 20), none, 459264, 2, []⟩])
   (.cond (.t 21)
    (.skip)
    (.exit 2)))
   (.seq (.block 3 (.reg [⟨(some 24), .faddr 2 (.t 5), none, 589824, 0, []⟩,
     ⟨(some 25), .load 1 false (.t 24), none, 590080, 1, []⟩,
     ⟨(some 26), .mv (.t 0), none, 590336, 2, []⟩,
     ⟨(some 27), .mv (.t 6), none, 590592, 3, []⟩,
     ⟨(some 28), .bin .add (.t 26) (.t 27), none, 590848, 4, []⟩,
     ⟨(some 29), .mv (.t 0), none, 591104, 5, []⟩,
     ⟨(some 30), .mv (.t 6), none, 591360, 6, []⟩,
     ⟨(some 31), .bin .add (.t 29) (.t 30), none, 591616, 7, []⟩,
     ⟨(some 32), .mv (.t 7), none, 591872, 8, []⟩,
     ⟨(some 33), .bin .xor (.t 31) (.t 32), none, 592128, 9, []⟩,
     ⟨(some 34), .call 57 [(.t 33)] true, none, 592384, 10, []⟩,
     ⟨(some 35), .call 56 [(.t 28), (.t 34)] true, none, 592640, 11, []⟩,
     ⟨(some 36), .bslice true 1 [(.int .i64 0)] 1 [(0, (.t 35))], none, 592896, 12, []⟩,
     ⟨(some 37), .app true 1 8 (.t 25) (.t 36), none, 593152, 13, []⟩,
     ⟨(some 38), .faddr 2 (.t 5), none, 593408, 14, []⟩,
     ⟨none, .store 1 (.t 38) (.t 37), none, 593664, 15, []⟩]))
   (.reg [⟨(some 22), .mv (.t 7), none, 524288, 0, []⟩,
     ⟨(some 23), .bin .add (.t 22) (.k (.int .i64 1)), none, 524544, 1, []⟩,
     ⟨(some 7), .mv (.t 23), none, 524800, 2, []⟩])))))))
  (.reg [⟨(some 17), .mv (.t 6), none, 327680, 0, []⟩,
    ⟨(some 18), .bin .add (.t 17) (.k (.int .i64 1)), none, 327936, 1, []⟩,
    ⟨(some 6), .mv (.t 18), none, 328192, 2, []⟩]))))))
 (.seq (.reg [⟨(some 39), .load 3 true (.t 5), none, 655360, 0, []⟩,
   ⟨none, .store 3 (.t 4) (.t 39), none, 655616, 1, []⟩])
 (.ret)))))⟩
/-- loop.example/g00849/impl.between -/
def F30 : F := ⟨3, 15, [.t 6],
 .seq (.reg [⟨(some 6), .mv (.k (.bool false)), none, 0, 0, []⟩])
 (.seq (.reg [⟨(some 7), .mv (.t 0), none, 65536, 0, []⟩,
   ⟨(some 8), .mv (.t 1), none, 65792, 1, []⟩,
   ⟨(some 9), .bin .geq (.t 7) (.t 8), none, 66048, 2, []⟩,
   ⟨(some 10), .mv (.t 9), none, 66304, 3, []⟩,
   ⟨(some 11), .mv (.t 0), (some (some 10, true)), 66560, 4, []⟩,
   ⟨(some 12), .mv (.t 2), (some (some 10, true)), 66816, 5, []⟩,
   ⟨(some 13), .bin .leq (.t 11) (.t 12), (some (some 10, true)), 67072, 6, []⟩,
   ⟨(some 14), .pick (.t 10) (.t 13) (.k (.bool false)), none, 67328, 7, []⟩,
   ⟨(some 6), .mv (.t 14), none, 67584, 8, []⟩])
 (.ret))⟩
/-- loop.example/g00849/impl.generator -/
def F31 : F := ⟨2, 40, [.cell 4 3 true],
 .seq (.reg [⟨(some 4), .alloc [(.int .i64 0), (.int .i64 0), (.nil true 1)], none, 0, 0, []⟩])
 (.seq (.reg [⟨(some 8), .mv (.t 0), none, 65536, 0, []⟩,
   ⟨(some 9), .call 46 [(.t 8)] false, none, 65792, 1, []⟩,
   ⟨(some 5), .alloc [(.int .i64 0), (.int .i64 0), (.nil true 1)], none, 66048, 2, []⟩,
   ⟨none, .store 3 (.t 5) (.t 9), none, 66304, 3, []⟩])
 (.seq (.reg [⟨(some 10), .mv (.t 0), none, 131072, 0, []⟩,
   ⟨(some 11), .mv (.t 1), none, 131328, 1, []⟩,
   ⟨(some 12), .bin .add (.t 10) (.t 11), none, 131584, 2, []⟩,
   ⟨(some 13), .faddr 0 (.t 5), none, 131840, 3, []⟩,
   ⟨none, .store 1 (.t 13) (.t 12), none, 132096, 4, []⟩])
 (.seq (.seq (.reg [⟨(some 14), .mv (.t 1), none, 196608, 0, []⟩,
   ⟨(some 15), .mv (.k (.int .i64 0)), none, 196864, 1, []⟩])
 (.block 0 (.loop [0, 4, 5, 14, 15] [0, 3, 65792, 65793, 65794, 65795, 66048, 66051, 66305, 66306, 66307, 132097, 786689, 786690, 786691]
  (.seq (.reg [⟨(some 16), .bin .lss (.t 15) (.t 14), none, 262144, 0, []⟩])
  (.seq (.cond (.t 16)
   (.skip)
   (.exit 0))
  (.seq (.block 1 (.seq (.reg [⟨(some 17), .mv (.t 15), none, 327680, 0, []⟩,
    ⟨(some 6), .mv (.t 17), none, 327936, 1, []⟩])
  (.seq (.reg [⟨(some 18), .mv (.t 0), none, 393216, 0, []⟩,
    ⟨(some 19), .mv (.k (.int .i64 0)), none, 393472, 1, []⟩])
  (.block 2 (.loop [0, 4, 5, 6, 14, 15, 18, 19] [0, 3, 65792, 65793, 65794, 65795, 66048, 66051, 66305, 66306, 66307, 132097, 786689, 786690, 786691]
   (.seq (.reg [⟨(some 20), .bin .lss (.t 19) (.t 18), none, 458752, 0, []⟩])
   (.seq (.cond (.t 20)
    (.skip)
    (.exit 2))
   (.seq (.block 3 (.seq (.reg [⟨(some 21), .mv (.t 19), none, 524288, 0, []⟩,
     ⟨(some 7), .mv (.t 21), none, 524544, 1, []⟩])
   (.reg [⟨(some 22), .faddr 2 (.t 5), none, 589824, 0, []⟩,
     ⟨(some 23), .load 1 false (.t 22), none, 590080, 1, []⟩,
     ⟨(some 24), .mv (.t 0), none, 590336, 2, []⟩,
     ⟨(some 25), .mv (.t 6), none, 590592, 3, []⟩,
     ⟨(some 26), .bin .add (.t 24) (.t 25), none, 590848, 4, []⟩,
     ⟨(some 27), .mv (.t 0), none, 591104, 5, []⟩,
     ⟨(some 28), .mv (.t 6), none, 591360, 6, []⟩,
     ⟨(some 29), .bin .add (.t 27) (.t 28), none, 591616, 7, []⟩,
     ⟨(some 30), .mv (.t 7), none, 591872, 8, []⟩,
     ⟨(some 31), .bin .xor (.t 29) (.t 30), none, 592128, 9, []⟩,
     ⟨(some 32), .call 58 [(.t 31)] true, none, 592384, 10, []⟩,
     ⟨(some 33), .call 41 [(.t 26), (.t 32)] true, none, 592640, 11, []⟩,
     ⟨(some 34), .bslice true 1 [(.int .i64 0)] 1 [(0, (.t 33))], none, 592896, 12, []⟩,
     ⟨(some 35), .app true 1 8 (.t 23) (.t 34), none, 593152, 13, []⟩,
     ⟨(some 36), .faddr 2 (.t 5), none, 593408, 14, []⟩,
     ⟨none, .store 1 (.t 36) (.t 35), none, 593664, 15, []⟩])))
   (.reg [⟨(some 37), .bin .add (.t 19) (.k (.int .i64 1)), none, 655360, 0, []⟩,
     ⟨(some 19), .mv (.t 37), none, 655616, 1, []⟩])))))))))
  (.reg [⟨(some 38), .bin .add (.t 15) (.k (.int .i64 1)), none, 720896, 0, []⟩,
    ⟨(some 15), .mv (.t 38), none, 721152, 1, []⟩])))))))
 (.seq (.reg [⟨(some 39), .load 3 true (.t 5), none, 786432, 0, []⟩,
   ⟨none, .store 3 (.t 4) (.t 39), none, 786688, 1, []⟩])
 (.ret)))))⟩
/-- loop.example/g00849/laws.eqInt64S -/
def F32 : F := ⟨2, 26, [.t 4],
 .seq (.reg [⟨(some 4), .mv (.k (.bool false)), none, 0, 0, []⟩])
 (.seq (.seq (.reg [⟨(some 6), .mv (.t 0), none, 65536, 0, []⟩,
   ⟨(some 7), .len false (.t 6), none, 65792, 1, []⟩,
   ⟨(some 8), .mv (.t 1), none, 66048, 2, []⟩,
   ⟨(some 9), .len false (.t 8), none, 66304, 3, []⟩,
   ⟨(some 10), .bin .neq (.t 7) (.t 9), none, 66560, 4, []⟩])
 (.cond (.t 10)
  (.seq (.reg [⟨(some 4), .mv (.k (.bool false)), none, 131072, 0, []⟩])
  (.ret))
  (.skip)))
 (.seq (.seq (.reg [⟨(some 5), .mv (.k (.int .i64 0)), none, 196608, 0, []⟩])
 (.block 0 (.loop [0, 1, 5] []
  (.seq (.seq (.reg [⟨(some 11), .mv (.t 5), none, 262144, 0, []⟩,
    ⟨(some 12), .mv (.t 0), none, 262400, 1, []⟩,
    ⟨(some 13), .len false (.t 12), none, 262656, 2, []⟩,
    ⟨(some 14), .bin .lss (.t 11) (.t 13), none, 262912, 3, []⟩])
  (.cond (.t 14)
   (.skip)
   (.exit 0)))
  (.seq (.block 1 (.seq (.reg [⟨(some 17), .mv (.t 0), none, 393216, 0, []⟩,
    ⟨(some 18), .mv (.t 5), none, 393472, 1, []⟩,
    ⟨(some 19), .iaddr 1 (.t 17) (.t 18), none, 393728, 2, []⟩,
    ⟨(some 20), .load 1 false (.t 19), none, 393984, 3, []⟩,
    ⟨(some 21), .mv (.t 1), none, 394240, 4, []⟩,
    ⟨(some 22), .mv (.t 5), none, 394496, 5, []⟩,
    ⟨(some 23), .iaddr 1 (.t 21) (.t 22), none, 394752, 6, []⟩,
    ⟨(some 24), .load 1 false (.t 23), none, 395008, 7, []⟩,
    ⟨(some 25), .bin .neq (.t 20) (.t 24), none, 395264, 8, []⟩])
  (.cond (.t 25)
   (.seq (.reg [⟨(some 4), .mv (.k (.bool false)), none, 458752, 0, []⟩])
   (.ret))
   (.skip))))
  (.reg [⟨(some 15), .mv (.t 5), none, 327680, 0, []⟩,
    ⟨(some 16), .bin .add (.t 15) (.k (.int .i64 1)), none, 327936, 1, []⟩,
    ⟨(some 5), .mv (.t 16), none, 328192, 2, []⟩]))))))
 (.seq (.reg [⟨(some 4), .mv (.k (.bool true)), none, 524288, 0, []⟩])
 (.ret))))⟩
/-- loop.example/g00849/laws.markInt64S -/
def F33 : F := ⟨2, 19, [.t 4],
 .seq (.reg [⟨(some 4), .mv (.k (.int .i64 0)), none, 0, 0, []⟩])
 (.seq (.seq (.reg [⟨(some 5), .mv (.k (.int .i64 0)), none, 65536, 0, []⟩])
 (.block 0 (.loop [0, 1, 5] []
  (.seq (.seq (.reg [⟨(some 6), .mv (.t 5), none, 131072, 0, []⟩,
    ⟨(some 7), .mv (.t 0), none, 131328, 1, []⟩,
    ⟨(some 8), .len false (.t 7), none, 131584, 2, []⟩,
    ⟨(some 9), .bin .lss (.t 6) (.t 8), none, 131840, 3, []⟩])
  (.cond (.t 9)
   (.skip)
   (.exit 0)))
  (.seq (.block 1 (.seq (.reg [⟨(some 12), .mv (.t 0), none, 262144, 0, []⟩,
    ⟨(some 13), .mv (.t 5), none, 262400, 1, []⟩,
    ⟨(some 14), .mv (.t 1), none, 262656, 2, []⟩,
    ⟨(some 15), .iaddr 1 (.t 12) (.t 13), none, 262912, 3, []⟩,
    ⟨none, .store 1 (.t 15) (.t 14), none, 263168, 4, []⟩])
  (.reg [⟨(some 16), .mv (.t 1), none, 327680, 0, []⟩,
    ⟨(some 17), .bin .add (.t 16) (.k (.int .i64 1)), none, 327936, 1, []⟩,
    ⟨(some 1), .mv (.t 17), none, 328192, 2, []⟩])))
  (.reg [⟨(some 10), .mv (.t 5), none, 196608, 0, []⟩,
    ⟨(some 11), .bin .add (.t 10) (.k (.int .i64 1)), none, 196864, 1, []⟩,
    ⟨(some 5), .mv (.t 11), none, 197120, 2, []⟩]))))))
 (.seq (.reg [⟨(some 18), .mv (.t 1), none, 393216, 0, []⟩,
   ⟨(some 4), .mv (.t 18), none, 393472, 1, []⟩])
 (.ret)))⟩
/-- loop.example/g00849/laws.heldInt64S -/
def F34 : F := ⟨2, 21, [.t 4],
 .seq (.reg [⟨(some 4), .mv (.k (.int .i64 0)), none, 0, 0, []⟩])
 (.seq (.seq (.reg [⟨(some 5), .mv (.k (.int .i64 0)), none, 65536, 0, []⟩])
 (.block 0 (.loop [0, 1, 5] []
  (.seq (.seq (.reg [⟨(some 6), .mv (.t 5), none, 131072, 0, []⟩,
    ⟨(some 7), .mv (.t 0), none, 131328, 1, []⟩,
    ⟨(some 8), .len false (.t 7), none, 131584, 2, []⟩,
    ⟨(some 9), .bin .lss (.t 6) (.t 8), none, 131840, 3, []⟩])
  (.cond (.t 9)
   (.skip)
   (.exit 0)))
  (.seq (.block 1 (.seq (.seq (.reg [⟨(some 12), .mv (.t 0), none, 262144, 0, []⟩,
    ⟨(some 13), .mv (.t 5), none, 262400, 1, []⟩,
    ⟨(some 14), .iaddr 1 (.t 12) (.t 13), none, 262656, 2, []⟩,
    ⟨(some 15), .load 1 false (.t 14), none, 262912, 3, []⟩,
    ⟨(some 16), .mv (.t 1), none, 263168, 4, []⟩,
    ⟨(some 17), .bin .neq (.t 15) (.t 16), none, 263424, 5, []⟩])
  (.cond (.t 17)
   (.seq (.reg [⟨(some 4), .mv (.k (.int .i64 (-1))), none, 327680, 0, []⟩])
   (.ret))
   (.skip)))
  (.reg [⟨(some 18), .mv (.t 1), none, 393216, 0, []⟩,
    ⟨(some 19), .bin .add (.t 18) (.k (.int .i64 1)), none, 393472, 1, []⟩,
    ⟨(some 1), .mv (.t 19), none, 393728, 2, []⟩])))
  (.reg [⟨(some 10), .mv (.t 5), none, 196608, 0, []⟩,
    ⟨(some 11), .bin .add (.t 10) (.k (.int .i64 1)), none, 196864, 1, []⟩,
    ⟨(some 5), .mv (.t 11), none, 197120, 2, []⟩]))))))
 (.seq (.reg [⟨(some 20), .mv (.t 1), none, 458752, 0, []⟩,
   ⟨(some 4), .mv (.t 20), none, 459008, 1, []⟩])
 (.ret)))⟩
/-- loop.example/g00849/laws.szInt64S -/
def F35 : F := ⟨2, 12, [.t 4],
 .seq (.reg [⟨(some 4), .mv (.k (.int .i64 0)), none, 0, 0, []⟩])
 (.seq (.reg [⟨(some 5), .mv (.t 1), none, 65536, 0, []⟩,
   ⟨(some 6), .mv (.t 0), none, 65792, 1, []⟩,
   ⟨(some 7), .len false (.t 6), none, 66048, 2, []⟩,
   ⟨(some 8), .bin .sub (.t 5) (.t 7), none, 66304, 3, []⟩,
   ⟨(some 1), .mv (.t 8), none, 66560, 4, []⟩])
 (.seq (.seq (.reg [⟨(some 9), .mv (.t 1), none, 131072, 0, []⟩,
   ⟨(some 10), .bin .lss (.t 9) (.k (.int .i64 0)), none, 131328, 1, []⟩])
 (.cond (.t 10)
  (.seq (.reg [⟨(some 4), .mv (.k (.int .i64 (-1))), none, 196608, 0, []⟩])
  (.ret))
  (.skip)))
 (.seq (.reg [⟨(some 11), .mv (.t 1), none, 262144, 0, []⟩,
   ⟨(some 4), .mv (.t 11), none, 262400, 1, []⟩])
 (.ret))))⟩
/-- loop.example/g00849/spec.l03OK -/
def F36 : F := ⟨1, 39, [.t 2],
 .seq (.reg [⟨(some 1), .box (.t 0), none, 0, 0, []⟩,
   ⟨(some 2), .mv (.k (.bool false)), none, 256, 1, []⟩])
 (.seq (.seq (.reg [⟨(some 4), .faddr 0 (.t 1), none, 65536, 0, []⟩,
   ⟨(some 5), .load 1 false (.t 4), none, 65792, 1, []⟩,
   ⟨(some 6), .call 59 [(.t 5), (.k (.int .i64 1)), (.k (.int .i64 8))] true, none, 66048, 2, []⟩,
   ⟨(some 7), .not (.t 6), none, 66304, 3, []⟩,
   ⟨(some 8), .mv (.t 7), none, 66560, 4, []⟩,
   ⟨(some 9), .faddr 1 (.t 1), (some (some 8, false)), 66816, 5, []⟩,
   ⟨(some 10), .load 1 false (.t 9), (some (some 8, false)), 67072, 6, []⟩,
   ⟨(some 11), .call 59 [(.t 10), (.k (.int .i64 1)), (.k (.int .i64 8))] true, (some (some 8, false)), 67328, 7, []⟩,
   ⟨(some 12), .not (.t 11), (some (some 8, false)), 67584, 8, []⟩,
   ⟨(some 13), .pick (.t 8) (.k (.bool true)) (.t 12), none, 67840, 9, []⟩,
   ⟨(some 14), .mv (.t 13), none, 68096, 10, []⟩,
   ⟨(some 15), .faddr 2 (.t 1), (some (some 14, false)), 68352, 11, []⟩,
   ⟨(some 16), .load 1 false (.t 15), (some (some 14, false)), 68608, 12, []⟩,
   ⟨(some 17), .len false (.t 16), (some (some 14, false)), 68864, 13, []⟩,
   ⟨(some 18), .faddr 0 (.t 1), (some (some 14, false)), 69120, 14, []⟩,
   ⟨(some 19), .load 1 false (.t 18), (some (some 14, false)), 69376, 15, []⟩,
   ⟨(some 20), .faddr 1 (.t 1), (some (some 14, false)), 69632, 16, []⟩,
   ⟨(some 21), .load 1 false (.t 20), (some (some 14, false)), 69888, 17, []⟩,
   ⟨(some 22), .bin .mul (.t 19) (.t 21), (some (some 14, false)), 70144, 18, []⟩,
   ⟨(some 23), .bin .neq (.t 17) (.t 22), (some (some 14, false)), 70400, 19, []⟩,
   ⟨(some 24), .pick (.t 14) (.k (.bool true)) (.t 23), none, 70656, 20, []⟩])
 (.cond (.t 24)
  (.seq (.reg [⟨(some 2), .mv (.k (.bool false)), none, 131072, 0, []⟩])
  (.ret))
  (.skip)))
 (.seq (.seq (.reg [⟨(some 3), .mv (.k (.int .i64 0)), none, 196608, 0, []⟩])
 (.block 0 (.loop [1, 3] [0, 1, 2, 3, 4, 5]
  (.seq (.seq (.reg [⟨(some 25), .mv (.t 3), none, 262144, 0, []⟩,
    ⟨(some 26), .faddr 2 (.t 1), none, 262400, 1, []⟩,
    ⟨(some 27), .load 1 false (.t 26), none, 262656, 2, []⟩,
    ⟨(some 28), .len false (.t 27), none, 262912, 3, []⟩,
    ⟨(some 29), .bin .lss (.t 25) (.t 28), none, 263168, 4, []⟩])
  (.cond (.t 29)
   (.skip)
   (.exit 0)))
  (.seq (.block 1 (.seq (.reg [⟨(some 32), .faddr 2 (.t 1), none, 393216, 0, []⟩,
    ⟨(some 33), .load 1 false (.t 32), none, 393472, 1, []⟩,
    ⟨(some 34), .mv (.t 3), none, 393728, 2, []⟩,
    ⟨(some 35), .iaddr 1 (.t 33) (.t 34), none, 393984, 3, []⟩,
    ⟨(some 36), .load 1 false (.t 35), none, 394240, 4, []⟩,
    ⟨(some 37), .call 60 [(.t 36)] true, none, 394496, 5, []⟩,
    ⟨(some 38), .not (.t 37), none, 394752, 6, []⟩])
  (.cond (.t 38)
   (.seq (.reg [⟨(some 2), .mv (.k (.bool false)), none, 458752, 0, []⟩])
   (.ret))
   (.skip))))
  (.reg [⟨(some 30), .mv (.t 3), none, 327680, 0, []⟩,
    ⟨(some 31), .bin .add (.t 30) (.k (.int .i64 1)), none, 327936, 1, []⟩,
    ⟨(some 3), .mv (.t 31), none, 328192, 2, []⟩]))))))
 (.seq (.reg [⟨(some 2), .mv (.k (.bool true)), none, 524288, 0, []⟩])
 (.ret))))⟩
/-- loop.example/g00849/spec.l03Mul -/
def F37 : F := ⟨2, 63, [.cell 4 3 true],
 .seq (.reg [⟨(some 2), .box (.t 0), none, 0, 0, []⟩,
   ⟨(some 3), .box (.t 1), none, 256, 1, []⟩,
   ⟨(some 4), .alloc [(.int .i64 0), (.int .i64 0), (.nil true 1)], none, 512, 2, []⟩])
 (.seq (.reg [⟨(some 10), .faddr 0 (.t 2), none, 65536, 0, []⟩,
   ⟨(some 11), .load 1 false (.t 10), none, 65792, 1, []⟩,
   ⟨(some 12), .faddr 1 (.t 3), none, 66048, 2, []⟩,
   ⟨(some 13), .load 1 false (.t 12), none, 66304, 3, []⟩,
   ⟨(some 14), .build [(.int .i64 0), (.int .i64 0), (.nil true 1)] [(0, 1, (.t 11)), (1, 1, (.t 13))], none, 66560, 4, []⟩,
   ⟨(some 5), .alloc [(.int .i64 0), (.int .i64 0), (.nil true 1)], none, 66816, 5, []⟩,
   ⟨none, .store 3 (.t 5) (.t 14), none, 67072, 6, []⟩])
 (.seq (.seq (.reg [⟨(some 6), .mv (.k (.int .i64 0)), none, 131072, 0, []⟩])
 (.block 0 (.loop [2, 3, 4, 5, 6] [0, 1, 2, 3, 4, 5, 256, 257, 258, 259, 260, 261, 512, 515, 66816, 66819, 67073, 67074, 67075, 917761, 917762, 917763]
  (.seq (.seq (.reg [⟨(some 15), .mv (.t 6), none, 196608, 0, []⟩,
    ⟨(some 16), .faddr 0 (.t 2), none, 196864, 1, []⟩,
    ⟨(some 17), .load 1 false (.t 16), none, 197120, 2, []⟩,
    ⟨(some 18), .bin .lss (.t 15) (.t 17), none, 197376, 3, []⟩])
  (.cond (.t 18)
   (.skip)
   (.exit 0)))
  (.seq (.block 1 (.seq (.reg [⟨(some 7), .mv (.k (.int .i64 0)), none, 327680, 0, []⟩])
  (.block 2 (.loop [2, 3, 4, 5, 6, 7] [0, 1, 2, 3, 4, 5, 256, 257, 258, 259, 260, 261, 512, 515, 66816, 66819, 67073, 67074, 67075, 917761, 917762, 917763]
   (.seq (.seq (.reg [⟨(some 21), .mv (.t 7), none, 393216, 0, []⟩,
     ⟨(some 22), .faddr 1 (.t 3), none, 393472, 1, []⟩,
     ⟨(some 23), .load 1 false (.t 22), none, 393728, 2, []⟩,
     ⟨(some 24), .bin .lss (.t 21) (.t 23), none, 393984, 3, []⟩])
   (.cond (.t 24)
    (.skip)
    (.exit 2)))
   (.seq (.block 3 (.seq (.reg [⟨(some 8), .mv (.k (.int .i64 0)), none, 524288, 0, []⟩])
   (.seq (.seq (.reg [⟨(some 9), .mv (.k (.int .i64 0)), none, 589824, 0, []⟩])
   (.block 4 (.loop [2, 3, 4, 5, 6, 7, 8, 9] [0, 1, 2, 3, 4, 5, 256, 257, 258, 259, 260, 261, 512, 515, 66816, 66819, 67073, 67074, 67075, 852736, 852992, 853505, 917761, 917762, 917763]
    (.seq (.seq (.reg [⟨(some 27), .mv (.t 9), none, 655360, 0, []⟩,
      ⟨(some 28), .faddr 1 (.t 2), none, 655616, 1, []⟩,
      ⟨(some 29), .load 1 false (.t 28), none, 655872, 2, []⟩,
      ⟨(some 30), .bin .lss (.t 27) (.t 29), none, 656128, 3, []⟩])
    (.cond (.t 30)
     (.skip)
     (.exit 4)))
    (.seq (.block 5 (.reg [⟨(some 33), .mv (.t 8), none, 786432, 0, []⟩,
      ⟨(some 34), .faddr 2 (.t 2), none, 786688, 1, []⟩,
      ⟨(some 35), .load 1 false (.t 34), none, 786944, 2, []⟩,
      ⟨(some 36), .mv (.t 6), none, 787200, 3, []⟩,
      ⟨(some 37), .faddr 1 (.t 2), none, 787456, 4, []⟩,
      ⟨(some 38), .load 1 false (.t 37), none, 787712, 5, []⟩,
      ⟨(some 39), .bin .mul (.t 36) (.t 38), none, 787968, 6, []⟩,
      ⟨(some 40), .mv (.t 9), none, 788224, 7, []⟩,
      ⟨(some 41), .bin .add (.t 39) (.t 40), none, 788480, 8, []⟩,
      ⟨(some 42), .iaddr 1 (.t 35) (.t 41), none, 788736, 9, []⟩,
      ⟨(some 43), .load 1 false (.t 42), none, 788992, 10, []⟩,
      ⟨(some 44), .faddr 2 (.t 3), none, 789248, 11, []⟩,
      ⟨(some 45), .load 1 false (.t 44), none, 789504, 12, []⟩,
      ⟨(some 46), .mv (.t 9), none, 789760, 13, []⟩,
      ⟨(some 47), .faddr 1 (.t 3), none, 790016, 14, []⟩,
      ⟨(some 48), .load 1 false (.t 47), none, 790272, 15, []⟩,
      ⟨(some 49), .bin .mul (.t 46) (.t 48), none, 790528, 16, []⟩,
      ⟨(some 50), .mv (.t 7), none, 790784, 17, []⟩,
      ⟨(some 51), .bin .add (.t 49) (.t 50), none, 791040, 18, []⟩,
      ⟨(some 52), .iaddr 1 (.t 45) (.t 51), none, 791296, 19, []⟩,
      ⟨(some 53), .load 1 false (.t 52), none, 791552, 20, []⟩,
      ⟨(some 54), .call 56 [(.t 43), (.t 53)] true, none, 791808, 21, []⟩,
      ⟨(some 55), .bin .xor (.t 33) (.t 54), none, 792064, 22, []⟩,
      ⟨(some 8), .mv (.t 55), none, 792320, 23, []⟩]))
    (.reg [⟨(some 31), .mv (.t 9), none, 720896, 0, []⟩,
      ⟨(some 32), .bin .add (.t 31) (.k (.int .i64 1)), none, 721152, 1, []⟩,
      ⟨(some 9), .mv (.t 32), none, 721408, 2, []⟩]))))))
   (.reg [⟨(some 56), .faddr 2 (.t 5), none, 851968, 0, []⟩,
     ⟨(some 57), .load 1 false (.t 56), none, 852224, 1, []⟩,
     ⟨(some 58), .mv (.t 8), none, 852480, 2, []⟩,
     ⟨(some 59), .bslice true 1 [(.int .i64 0)] 1 [(0, (.t 58))], none, 852736, 3, []⟩,
     ⟨(some 60), .app true 1 8 (.t 57) (.t 59), none, 852992, 4, []⟩,
     ⟨(some 61), .faddr 2 (.t 5), none, 853248, 5, []⟩,
     ⟨none, .store 1 (.t 61) (.t 60), none, 853504, 6, []⟩]))))
   (.reg [⟨(some 25), .mv (.t 7), none, 458752, 0, []⟩,
     ⟨(some 26), .bin .add (.t 25) (.k (.int .i64 1)), none, 459008, 1, []⟩,
     ⟨(some 7), .mv (.t 26), none, 459264, 2, []⟩])))))))
  (.reg [⟨(some 19), .mv (.t 6), none, 262144, 0, []⟩,
    ⟨(some 20), .bin .add (.t 19) (.k (.int .i64 1)), none, 262400, 1, []⟩,
    ⟨(some 6), .mv (.t 20), none, 262656, 2, []⟩]))))))
 (.seq (.reg [⟨(some 62), .load 3 true (.t 5), none, 917504, 0, []⟩,
   ⟨none, .store 3 (.t 4) (.t 62), none, 917760, 1, []⟩])
 (.ret))))⟩
/-- loop.example/g00849/laws.toInt64S -/
def F38 : F := ⟨1, 22, [.t 2],
 .seq (.reg [⟨(some 2), .nil0 true 1, none, 0, 0, []⟩])
 (.seq (.reg [⟨(some 5), .mv (.t 0), none, 65536, 0, []⟩,
   ⟨(some 6), .len false (.t 5), none, 65792, 1, []⟩,
   ⟨(some 7), .mksl true 1 8 [(.int .i64 0)] (.t 6) (.t 6), none, 66048, 2, []⟩,
   ⟨(some 3), .mv (.t 7), none, 66304, 3, []⟩])
 (.seq (.seq (.reg [⟨(some 4), .mv (.k (.int .i64 0)), none, 131072, 0, []⟩])
 (.block 0 (.loop [0, 3, 4] [0, 66048]
  (.seq (.seq (.reg [⟨(some 8), .mv (.t 4), none, 196608, 0, []⟩,
    ⟨(some 9), .mv (.t 0), none, 196864, 1, []⟩,
    ⟨(some 10), .len false (.t 9), none, 197120, 2, []⟩,
    ⟨(some 11), .bin .lss (.t 8) (.t 10), none, 197376, 3, []⟩])
  (.cond (.t 11)
   (.skip)
   (.exit 0)))
  (.seq (.block 1 (.reg [⟨(some 14), .mv (.t 3), none, 327680, 0, []⟩,
    ⟨(some 15), .mv (.t 4), none, 327936, 1, []⟩,
    ⟨(some 16), .mv (.t 0), none, 328192, 2, []⟩,
    ⟨(some 17), .mv (.t 4), none, 328448, 3, []⟩,
    ⟨(some 18), .iaddr 1 (.t 16) (.t 17), none, 328704, 4, []⟩,
    ⟨(some 19), .load 1 false (.t 18), none, 328960, 5, []⟩,
    ⟨(some 20), .iaddr 1 (.t 14) (.t 15), none, 329216, 6, []⟩,
    ⟨none, .store 1 (.t 20) (.t 19), none, 329472, 7, []⟩]))
  (.reg [⟨(some 12), .mv (.t 4), none, 262144, 0, []⟩,
    ⟨(some 13), .bin .add (.t 12) (.k (.int .i64 1)), none, 262400, 1, []⟩,
    ⟨(some 4), .mv (.t 13), none, 262656, 2, []⟩]))))))
 (.seq (.reg [⟨(some 21), .mv (.t 3), none, 393216, 0, []⟩,
   ⟨(some 2), .mv (.t 21), none, 393472, 1, []⟩])
 (.ret))))⟩
/-- loop.example/g00849/impl.MatrixOk -/
def F39 : F := ⟨1, 28, [.t 2],
 .seq (.reg [⟨(some 1), .box (.t 0), none, 0, 0, []⟩,
   ⟨(some 2), .mv (.k (.bool false)), none, 256, 1, []⟩])
 (.seq (.reg [⟨(some 3), .faddr 0 (.t 1), none, 65536, 0, []⟩,
   ⟨(some 4), .load 1 false (.t 3), none, 65792, 1, []⟩,
   ⟨(some 5), .call 30 [(.t 4), (.k (.int .i64 1)), (.k (.int .i64 8))] true, none, 66048, 2, []⟩,
   ⟨(some 6), .mv (.t 5), none, 66304, 3, []⟩,
   ⟨(some 7), .faddr 1 (.t 1), (some (some 6, true)), 66560, 4, []⟩,
   ⟨(some 8), .load 1 false (.t 7), (some (some 6, true)), 66816, 5, []⟩,
   ⟨(some 9), .call 30 [(.t 8), (.k (.int .i64 1)), (.k (.int .i64 8))] true, (some (some 6, true)), 67072, 6, []⟩,
   ⟨(some 10), .pick (.t 6) (.t 9) (.k (.bool false)), none, 67328, 7, []⟩,
   ⟨(some 11), .mv (.t 10), none, 67584, 8, []⟩,
   ⟨(some 12), .faddr 2 (.t 1), (some (some 11, true)), 67840, 9, []⟩,
   ⟨(some 13), .load 1 false (.t 12), (some (some 11, true)), 68096, 10, []⟩,
   ⟨(some 14), .len false (.t 13), (some (some 11, true)), 68352, 11, []⟩,
   ⟨(some 15), .faddr 0 (.t 1), (some (some 11, true)), 68608, 12, []⟩,
   ⟨(some 16), .load 1 false (.t 15), (some (some 11, true)), 68864, 13, []⟩,
   ⟨(some 17), .faddr 1 (.t 1), (some (some 11, true)), 69120, 14, []⟩,
   ⟨(some 18), .load 1 false (.t 17), (some (some 11, true)), 69376, 15, []⟩,
   ⟨(some 19), .bin .mul (.t 16) (.t 18), (some (some 11, true)), 69632, 16, []⟩,
   ⟨(some 20), .bin .eql (.t 14) (.t 19), (some (some 11, true)), 69888, 17, []⟩,
   ⟨(some 21), .pick (.t 11) (.t 20) (.k (.bool false)), none, 70144, 18, []⟩,
   ⟨(some 22), .mv (.t 21), none, 70400, 19, []⟩,
   ⟨(some 23), .faddr 2 (.t 1), (some (some 22, true)), 70656, 20, []⟩,
   ⟨(some 24), .load 1 false (.t 23), (some (some 22, true)), 70912, 21, []⟩,
   ⟨(some 25), .call 42 [(.t 24), (.k (.fn 61 []))] true, (some (some 22, true)), 71168, 22, []⟩,
   ⟨(some 26), .not (.t 25), (some (some 22, true)), 71424, 23, []⟩,
   ⟨(some 27), .pick (.t 22) (.t 26) (.k (.bool false)), none, 71680, 24, []⟩,
   ⟨(some 2), .mv (.t 27), none, 71936, 25, []⟩])
 (.ret))⟩
/-- (loop.example/g00849/impl.Matrix).row -/
def F40 : F := ⟨2, 17, [.t 4],
 .seq (.reg [⟨(some 2), .box (.t 0), none, 0, 0, []⟩,
   ⟨(some 4), .nil0 true 1, none, 256, 1, []⟩])
 (.seq (.reg [⟨(some 5), .faddr 2 (.t 2), none, 65536, 0, []⟩,
   ⟨(some 6), .load 1 false (.t 5), none, 65792, 1, []⟩,
   ⟨(some 7), .mv (.t 1), none, 66048, 2, []⟩,
   ⟨(some 8), .faddr 1 (.t 2), none, 66304, 3, []⟩,
   ⟨(some 9), .load 1 false (.t 8), none, 66560, 4, []⟩,
   ⟨(some 10), .bin .mul (.t 7) (.t 9), none, 66816, 5, []⟩,
   ⟨(some 11), .mv (.t 1), none, 67072, 6, []⟩,
   ⟨(some 12), .bin .add (.t 11) (.k (.int .i64 1)), none, 67328, 7, []⟩,
   ⟨(some 13), .faddr 1 (.t 2), none, 67584, 8, []⟩,
   ⟨(some 14), .load 1 false (.t 13), none, 67840, 9, []⟩,
   ⟨(some 15), .bin .mul (.t 12) (.t 14), none, 68096, 10, []⟩,
   ⟨(some 16), .cut 1 (.t 6) (some (.t 10)) (some (.t 15)), none, 68352, 11, []⟩,
   ⟨(some 4), .mv (.t 16), none, 68608, 12, []⟩])
 (.ret))⟩
/-- loop.example/g00849/impl.times -/
def F41 : F := ⟨2, 19, [.t 4],
 .seq (.reg [⟨(some 4), .mv (.k (.int .i64 0)), none, 0, 0, []⟩])
 (.seq (.reg [⟨(some 5), .mv (.k (.int .i64 0)), none, 65536, 0, []⟩])
 (.seq (.block 0 (.loop [0, 1, 5] []
  (.seq (.seq (.reg [⟨(some 6), .mv (.t 1), none, 131072, 0, []⟩,
    ⟨(some 7), .bin .gtr (.t 6) (.k (.int .i64 0)), none, 131328, 1, []⟩])
  (.cond (.t 7)
   (.skip)
   (.exit 0)))
  (.seq (.block 1 (.seq (.seq (.reg [⟨(some 10), .mv (.t 1), none, 262144, 0, []⟩,
    ⟨(some 11), .bin .rem (.t 10) (.k (.int .i64 2)), none, 262400, 1, []⟩,
    ⟨(some 12), .bin .eql (.t 11) (.k (.int .i64 1)), none, 262656, 2, []⟩])
  (.cond (.t 12)
   (.reg [⟨(some 13), .mv (.t 5), none, 327680, 0, []⟩,
     ⟨(some 14), .mv (.t 0), none, 327936, 1, []⟩,
     ⟨(some 15), .bin .xor (.t 13) (.t 14), none, 328192, 2, []⟩,
     ⟨(some 5), .mv (.t 15), none, 328448, 3, []⟩])
   (.skip)))
  (.reg [⟨(some 16), .mv (.t 0), none, 393216, 0, []⟩,
    ⟨(some 17), .call 63 [(.t 16)] true, none, 393472, 1, []⟩,
    ⟨(some 0), .mv (.t 17), none, 393728, 2, []⟩])))
  (.reg [⟨(some 8), .mv (.t 1), none, 196608, 0, []⟩,
    ⟨(some 9), .bin .quo (.t 8) (.k (.int .i64 2)), none, 196864, 1, []⟩,
    ⟨(some 1), .mv (.t 9), none, 197120, 2, []⟩])))))
 (.seq (.reg [⟨(some 18), .mv (.t 5), none, 458752, 0, []⟩,
   ⟨(some 4), .mv (.t 18), none, 459008, 1, []⟩])
 (.ret))))⟩
/-- slices.ContainsFunc[[]int64,int64] -/
def F42 : F := ⟨2, 9, [.t 4],
 .seq (.reg [⟨(some 4), .mv (.k (.bool false)), none, 0, 0, []⟩])
 (.seq (.reg [⟨(some 5), .mv (.t 0), none, 65536, 0, []⟩,
   ⟨(some 6), .mv (.t 1), none, 65792, 1, []⟩,
   ⟨(some 7), .call 64 [(.t 5), (.t 6)] true, none, 66048, 2, []⟩,
   ⟨(some 8), .bin .geq (.t 7) (.k (.int .i64 0)), none, 66304, 3, []⟩,
   ⟨(some 4), .mv (.t 8), none, 66560, 4, []⟩])
 (.ret))⟩
/-- loop.example/g00849/impl.unit -/
def F46 : F := ⟨1, 23, [.cell 2 3 true],
 .seq (.reg [⟨(some 2), .alloc [(.int .i64 0), (.int .i64 0), (.nil true 1)], none, 0, 0, []⟩])
 (.seq (.reg [⟨(some 5), .mv (.t 0), none, 65536, 0, []⟩,
   ⟨(some 6), .mv (.t 0), none, 65792, 1, []⟩,
   ⟨(some 7), .mv (.t 0), none, 66048, 2, []⟩,
   ⟨(some 8), .mv (.t 0), none, 66304, 3, []⟩,
   ⟨(some 9), .bin .mul (.t 7) (.t 8), none, 66560, 4, []⟩,
   ⟨(some 10), .mksl true 1 8 [(.int .i64 0)] (.t 9) (.t 9), none, 66816, 5, []⟩,
   ⟨(some 11), .build [(.int .i64 0), (.int .i64 0), (.nil true 1)] [(0, 1, (.t 5)), (1, 1, (.t 6)), (2, 1, (.t 10))], none, 67072, 6, []⟩,
   ⟨(some 3), .alloc [(.int .i64 0), (.int .i64 0), (.nil true 1)], none, 67328, 7, []⟩,
   ⟨none, .store 3 (.t 3) (.t 11), none, 67584, 8, []⟩])
 (.seq (.seq (.reg [⟨(some 12), .mv (.t 0), none, 131072, 0, []⟩,
   ⟨(some 13), .mv (.k (.int .i64 0)), none, 131328, 1, []⟩])
 (.block 0 (.loop [2, 3, 12, 13] [0, 3, 66816, 67328, 67331, 67585, 67586, 67587, 459009, 459010, 459011]
  (.seq (.reg [⟨(some 14), .bin .lss (.t 13) (.t 12), none, 196608, 0, []⟩])
  (.seq (.cond (.t 14)
   (.skip)
   (.exit 0))
  (.seq (.block 1 (.seq (.reg [⟨(some 15), .mv (.t 13), none, 262144, 0, []⟩,
    ⟨(some 4), .mv (.t 15), none, 262400, 1, []⟩])
  (.reg [⟨(some 16), .load 3 true (.t 3), none, 327680, 0, []⟩,
    ⟨(some 17), .mv (.t 4), none, 327936, 1, []⟩,
    ⟨(some 18), .call 40 [(.t 16), (.t 17)] false, none, 328192, 2, []⟩,
    ⟨(some 19), .mv (.t 4), none, 328448, 3, []⟩,
    ⟨(some 20), .iaddr 1 (.t 18) (.t 19), none, 328704, 4, []⟩,
    ⟨none, .store 1 (.t 20) (.k (.int .i64 1)), none, 328960, 5, []⟩])))
  (.reg [⟨(some 21), .bin .add (.t 13) (.k (.int .i64 1)), none, 393216, 0, []⟩,
    ⟨(some 13), .mv (.t 21), none, 393472, 1, []⟩])))))))
 (.seq (.reg [⟨(some 22), .load 3 true (.t 3), none, 458752, 0, []⟩,
   ⟨none, .store 3 (.t 2) (.t 22), none, 459008, 1, []⟩])
 (.ret))))⟩
/-- loop.example/g00849/spec.l03Unit -/
def F55 : F := ⟨1, 31, [.cell 2 3 true],
 .seq (.reg [⟨(some 2), .alloc [(.int .i64 0), (.int .i64 0), (.nil true 1)], none, 0, 0, []⟩])
 (.seq (.reg [⟨(some 5), .mv (.t 0), none, 65536, 0, []⟩,
   ⟨(some 6), .mv (.t 0), none, 65792, 1, []⟩,
   ⟨(some 7), .build [(.int .i64 0), (.int .i64 0), (.nil true 1)] [(0, 1, (.t 5)), (1, 1, (.t 6))], none, 66048, 2, []⟩,
   ⟨(some 3), .alloc [(.int .i64 0), (.int .i64 0), (.nil true 1)], none, 66304, 3, []⟩,
   ⟨none, .store 3 (.t 3) (.t 7), none, 66560, 4, []⟩])
 (.seq (.seq (.reg [⟨(some 4), .mv (.k (.int .i64 0)), none, 131072, 0, []⟩])
 (.block 0 (.loop [0, 2, 3, 4] [0, 3, 66304, 66307, 66561, 66562, 66563, 524545, 524546, 524547]
  (.seq (.seq (.reg [⟨(some 8), .mv (.t 4), none, 196608, 0, []⟩,
    ⟨(some 9), .mv (.t 0), none, 196864, 1, []⟩,
    ⟨(some 10), .mv (.t 0), none, 197120, 2, []⟩,
    ⟨(some 11), .bin .mul (.t 9) (.t 10), none, 197376, 3, []⟩,
    ⟨(some 12), .bin .lss (.t 8) (.t 11), none, 197632, 4, []⟩])
  (.cond (.t 12)
   (.skip)
   (.exit 0)))
  (.seq (.block 1 (.seq (.reg [⟨(some 15), .mv (.t 4), none, 327680, 0, []⟩,
    ⟨(some 16), .mv (.t 0), none, 327936, 1, []⟩,
    ⟨(some 17), .bin .add (.t 16) (.k (.int .i64 1)), none, 328192, 2, []⟩,
    ⟨(some 18), .bin .rem (.t 15) (.t 17), none, 328448, 3, []⟩,
    ⟨(some 19), .bin .eql (.t 18) (.k (.int .i64 0)), none, 328704, 4, []⟩])
  (.cond (.t 19)
   (.reg [⟨(some 20), .faddr 2 (.t 3), none, 393216, 0, []⟩,
     ⟨(some 21), .load 1 false (.t 20), none, 393472, 1, []⟩,
     ⟨(some 22), .bslice true 1 [(.int .i64 0)] 1 [(0, (.k (.int .i64 1)))], none, 393728, 2, []⟩,
     ⟨(some 23), .app true 1 8 (.t 21) (.t 22), none, 393984, 3, []⟩,
     ⟨(some 24), .faddr 2 (.t 3), none, 394240, 4, []⟩,
     ⟨none, .store 1 (.t 24) (.t 23), none, 394496, 5, []⟩])
   (.reg [⟨(some 25), .faddr 2 (.t 3), none, 458752, 0, []⟩,
     ⟨(some 26), .load 1 false (.t 25), none, 459008, 1, []⟩,
     ⟨(some 27), .bslice true 1 [(.int .i64 0)] 1 [(0, (.k (.int .i64 0)))], none, 459264, 2, []⟩,
     ⟨(some 28), .app true 1 8 (.t 26) (.t 27), none, 459520, 3, []⟩,
     ⟨(some 29), .faddr 2 (.t 3), none, 459776, 4, []⟩,
     ⟨none, .store 1 (.t 29) (.t 28), none, 460032, 5, []⟩]))))
  (.reg [⟨(some 13), .mv (.t 4), none, 262144, 0, []⟩,
    ⟨(some 14), .bin .add (.t 13) (.k (.int .i64 1)), none, 262400, 1, []⟩,
    ⟨(some 4), .mv (.t 14), none, 262656, 2, []⟩]))))))
 (.seq (.reg [⟨(some 30), .load 3 true (.t 3), none, 524288, 0, []⟩,
   ⟨none, .store 3 (.t 2) (.t 30), none, 524544, 1, []⟩])
 (.ret))))⟩
/-- loop.example/g00849/spec.l02Times -/
def F56 : F := ⟨2, 26, [.t 4],
 .seq (.reg [⟨(some 4), .mv (.k (.int .i64 0)), none, 0, 0, []⟩])
 (.seq (.reg [⟨(some 5), .mv (.k (.int .i64 0)), none, 65536, 0, []⟩])
 (.seq (.seq (.reg [⟨(some 6), .mv (.k (.int .i64 0)), none, 131072, 0, []⟩])
 (.block 0 (.loop [0, 1, 5, 6] []
  (.seq (.seq (.reg [⟨(some 7), .mv (.t 6), none, 196608, 0, []⟩,
    ⟨(some 8), .bin .lss (.t 7) (.k (.int .i64 8)), none, 196864, 1, []⟩])
  (.cond (.t 8)
   (.skip)
   (.exit 0)))
  (.seq (.block 1 (.seq (.seq (.reg [⟨(some 11), .mv (.t 1), none, 327680, 0, []⟩,
    ⟨(some 12), .bin .and (.t 11) (.k (.int .i64 1)), none, 327936, 1, []⟩,
    ⟨(some 13), .bin .neq (.t 12) (.k (.int .i64 0)), none, 328192, 2, []⟩])
  (.cond (.t 13)
   (.reg [⟨(some 14), .mv (.t 5), none, 393216, 0, []⟩,
     ⟨(some 15), .mv (.t 0), none, 393472, 1, []⟩,
     ⟨(some 16), .bin .xor (.t 14) (.t 15), none, 393728, 2, []⟩,
     ⟨(some 5), .mv (.t 16), none, 393984, 3, []⟩])
   (.skip)))
  (.seq (.reg [⟨(some 17), .mv (.t 1), none, 458752, 0, []⟩,
    ⟨(some 18), .bin .shr (.t 17) (.k (.int .u64 1)), none, 459008, 1, []⟩,
    ⟨(some 1), .mv (.t 18), none, 459264, 2, []⟩])
  (.seq (.reg [⟨(some 19), .mv (.t 0), none, 524288, 0, []⟩,
    ⟨(some 20), .bin .shl (.t 19) (.k (.int .u64 1)), none, 524544, 1, []⟩,
    ⟨(some 0), .mv (.t 20), none, 524800, 2, []⟩])
  (.seq (.reg [⟨(some 21), .mv (.t 0), none, 589824, 0, []⟩,
    ⟨(some 22), .bin .gtr (.t 21) (.k (.int .i64 255)), none, 590080, 1, []⟩])
  (.cond (.t 22)
   (.reg [⟨(some 23), .mv (.t 0), none, 655360, 0, []⟩,
     ⟨(some 24), .bin .xor (.t 23) (.k (.int .i64 285)), none, 655616, 1, []⟩,
     ⟨(some 0), .mv (.t 24), none, 655872, 2, []⟩])
   (.skip)))))))
  (.reg [⟨(some 9), .mv (.t 6), none, 262144, 0, []⟩,
    ⟨(some 10), .bin .add (.t 9) (.k (.int .i64 1)), none, 262400, 1, []⟩,
    ⟨(some 6), .mv (.t 10), none, 262656, 2, []⟩]))))))
 (.seq (.reg [⟨(some 25), .mv (.t 5), none, 720896, 0, []⟩,
   ⟨(some 4), .mv (.t 25), none, 721152, 1, []⟩])
 (.ret))))⟩
/-- loop.example/g00849/spec.l02Inv -/
def F57 : F := ⟨1, 5, [.t 2],
 .seq (.reg [⟨(some 2), .mv (.k (.int .i64 0)), none, 0, 0, []⟩])
 (.seq (.reg [⟨(some 3), .mv (.t 0), none, 65536, 0, []⟩,
   ⟨(some 4), .call 76 [(.t 3), (.k (.int .i64 254))] true, none, 65792, 1, []⟩,
   ⟨(some 2), .mv (.t 4), none, 66048, 2, []⟩])
 (.ret))⟩
/-- loop.example/g00849/impl.inverse -/
def F58 : F := ⟨1, 5, [.t 2],
 .seq (.reg [⟨(some 2), .mv (.k (.int .i64 0)), none, 0, 0, []⟩])
 (.seq (.reg [⟨(some 3), .mv (.t 0), none, 65536, 0, []⟩,
   ⟨(some 4), .call 77 [(.t 3), (.k (.int .i64 254))] true, none, 65792, 1, []⟩,
   ⟨(some 2), .mv (.t 4), none, 66048, 2, []⟩])
 (.ret))⟩
/-- loop.example/g00849/spec.l00In -/
def F59 : F := ⟨3, 15, [.t 6],
 .seq (.reg [⟨(some 6), .mv (.k (.bool false)), none, 0, 0, []⟩])
 (.seq (.reg [⟨(some 7), .mv (.t 0), none, 65536, 0, []⟩,
   ⟨(some 8), .mv (.t 1), none, 65792, 1, []⟩,
   ⟨(some 9), .bin .geq (.t 7) (.t 8), none, 66048, 2, []⟩,
   ⟨(some 10), .mv (.t 9), none, 66304, 3, []⟩,
   ⟨(some 11), .mv (.t 0), (some (some 10, true)), 66560, 4, []⟩,
   ⟨(some 12), .mv (.t 2), (some (some 10, true)), 66816, 5, []⟩,
   ⟨(some 13), .bin .leq (.t 11) (.t 12), (some (some 10, true)), 67072, 6, []⟩,
   ⟨(some 14), .pick (.t 10) (.t 13) (.k (.bool false)), none, 67328, 7, []⟩,
   ⟨(some 6), .mv (.t 14), none, 67584, 8, []⟩])
 (.ret))⟩
/-- loop.example/g00849/spec.l02Byte -/
def F60 : F := ⟨1, 5, [.t 2],
 .seq (.reg [⟨(some 2), .mv (.k (.bool false)), none, 0, 0, []⟩])
 (.seq (.reg [⟨(some 3), .mv (.t 0), none, 65536, 0, []⟩,
   ⟨(some 4), .call 59 [(.t 3), (.k (.int .i64 0)), (.k (.int .i64 255))] true, none, 65792, 1, []⟩,
   ⟨(some 2), .mv (.t 4), none, 66048, 2, []⟩])
 (.ret))⟩
/-- loop.example/g00849/impl.MatrixOk$1 -/
def F61 : F := ⟨1, 6, [.t 2],
 .seq (.reg [⟨(some 2), .mv (.k (.bool false)), none, 0, 0, []⟩])
 (.seq (.reg [⟨(some 3), .mv (.t 0), none, 65536, 0, []⟩,
   ⟨(some 4), .call 62 [(.t 3)] true, none, 65792, 1, []⟩,
   ⟨(some 5), .not (.t 4), none, 66048, 2, []⟩,
   ⟨(some 2), .mv (.t 5), none, 66304, 3, []⟩])
 (.ret))⟩
/-- loop.example/g00849/impl.isElement -/
def F62 : F := ⟨1, 5, [.t 2],
 .seq (.reg [⟨(some 2), .mv (.k (.bool false)), none, 0, 0, []⟩])
 (.seq (.reg [⟨(some 3), .mv (.t 0), none, 65536, 0, []⟩,
   ⟨(some 4), .call 30 [(.t 3), (.k (.int .i64 0)), (.k (.int .i64 255))] true, none, 65792, 1, []⟩,
   ⟨(some 2), .mv (.t 4), none, 66048, 2, []⟩])
 (.ret))⟩
/-- loop.example/g00849/impl.double -/
def F63 : F := ⟨1, 10, [.t 2],
 .seq (.reg [⟨(some 2), .mv (.k (.int .i64 0)), none, 0, 0, []⟩])
 (.seq (.reg [⟨(some 3), .mv (.t 0), none, 65536, 0, []⟩,
   ⟨(some 4), .bin .mul (.t 3) (.k (.int .i64 2)), none, 65792, 1, []⟩,
   ⟨(some 0), .mv (.t 4), none, 66048, 2, []⟩])
 (.seq (.seq (.reg [⟨(some 5), .mv (.t 0), none, 131072, 0, []⟩,
   ⟨(some 6), .bin .gtr (.t 5) (.k (.int .i64 255)), none, 131328, 1, []⟩])
 (.cond (.t 6)
  (.reg [⟨(some 7), .mv (.t 0), none, 196608, 0, []⟩,
    ⟨(some 8), .bin .xor (.t 7) (.k (.int .i64 285)), none, 196864, 1, []⟩,
    ⟨(some 0), .mv (.t 8), none, 197120, 2, []⟩])
  (.skip)))
 (.seq (.reg [⟨(some 9), .mv (.t 0), none, 262144, 0, []⟩,
   ⟨(some 2), .mv (.t 9), none, 262400, 1, []⟩])
 (.ret))))⟩
/-- slices.IndexFunc[[]int64,int64] -/
def F64 : F := ⟨2, 19, [.t 4],
 .seq (.reg [⟨(some 4), .mv (.k (.int .i64 0)), none, 0, 0, []⟩])
 (.seq (.seq (.reg [⟨(some 6), .mv (.t 0), none, 65536, 0, []⟩,
   ⟨(some 7), .len false (.t 6), none, 65792, 1, []⟩,
   ⟨(some 8), .mv (.k (.int .i64 0)), none, 66048, 2, []⟩])
 (.block 0 (.loop [0, 1, 7, 8] []
  (.seq (.reg [⟨(some 9), .bin .lss (.t 8) (.t 7), none, 131072, 0, []⟩])
  (.seq (.cond (.t 9)
   (.skip)
   (.exit 0))
  (.seq (.block 1 (.seq (.reg [⟨(some 10), .mv (.t 8), none, 196608, 0, []⟩,
    ⟨(some 5), .mv (.t 10), none, 196864, 1, []⟩])
  (.seq (.reg [⟨(some 11), .mv (.t 1), none, 262144, 0, []⟩,
    ⟨(some 12), .mv (.t 0), none, 262400, 1, []⟩,
    ⟨(some 13), .mv (.t 5), none, 262656, 2, []⟩,
    ⟨(some 14), .iaddr 1 (.t 12) (.t 13), none, 262912, 3, []⟩,
    ⟨(some 15), .load 1 false (.t 14), none, 263168, 4, []⟩,
    ⟨(some 16), .callv (.t 11) [(.t 15)] true, none, 263424, 5, []⟩])
  (.cond (.t 16)
   (.seq (.reg [⟨(some 17), .mv (.t 5), none, 327680, 0, []⟩,
     ⟨(some 4), .mv (.t 17), none, 327936, 1, []⟩])
   (.ret))
   (.skip)))))
  (.reg [⟨(some 18), .bin .add (.t 8) (.k (.int .i64 1)), none, 393216, 0, []⟩,
    ⟨(some 8), .mv (.t 18), none, 393472, 1, []⟩])))))))
 (.seq (.reg [⟨(some 4), .mv (.k (.int .i64 (-1))), none, 458752, 0, []⟩])
 (.ret)))⟩
/-- loop.example/g00849/spec.l02Pow -/
def F76 : F := ⟨2, 20, [.t 4],
 .seq (.reg [⟨(some 4), .mv (.k (.int .i64 0)), none, 0, 0, []⟩])
 (.seq (.reg [⟨(some 5), .mv (.k (.int .i64 1)), none, 65536, 0, []⟩])
 (.seq (.block 0 (.loop [0, 1, 5] []
  (.seq (.seq (.reg [⟨(some 6), .mv (.t 1), none, 131072, 0, []⟩,
    ⟨(some 7), .bin .gtr (.t 6) (.k (.int .i64 0)), none, 131328, 1, []⟩])
  (.cond (.t 7)
   (.skip)
   (.exit 0)))
  (.block 1 (.seq (.seq (.reg [⟨(some 8), .mv (.t 1), none, 196608, 0, []⟩,
    ⟨(some 9), .bin .rem (.t 8) (.k (.int .i64 2)), none, 196864, 1, []⟩,
    ⟨(some 10), .bin .eql (.t 9) (.k (.int .i64 1)), none, 197120, 2, []⟩])
  (.cond (.t 10)
   (.reg [⟨(some 11), .mv (.t 5), none, 262144, 0, []⟩,
     ⟨(some 12), .mv (.t 0), none, 262400, 1, []⟩,
     ⟨(some 13), .call 56 [(.t 11), (.t 12)] true, none, 262656, 2, []⟩,
     ⟨(some 5), .mv (.t 13), none, 262912, 3, []⟩])
   (.skip)))
  (.seq (.reg [⟨(some 14), .mv (.t 0), none, 327680, 0, []⟩,
    ⟨(some 15), .mv (.t 0), none, 327936, 1, []⟩,
    ⟨(some 16), .call 56 [(.t 14), (.t 15)] true, none, 328192, 2, []⟩,
    ⟨(some 0), .mv (.t 16), none, 328448, 3, []⟩])
  (.reg [⟨(some 17), .mv (.t 1), none, 393216, 0, []⟩,
    ⟨(some 18), .bin .quo (.t 17) (.k (.int .i64 2)), none, 393472, 1, []⟩,
    ⟨(some 1), .mv (.t 18), none, 393728, 2, []⟩])))))))
 (.seq (.reg [⟨(some 19), .mv (.t 5), none, 458752, 0, []⟩,
   ⟨(some 4), .mv (.t 19), none, 459008, 1, []⟩])
 (.ret))))⟩
/-- loop.example/g00849/impl.power -/
def F77 : F := ⟨2, 20, [.t 4],
 .seq (.reg [⟨(some 4), .mv (.k (.int .i64 0)), none, 0, 0, []⟩])
 (.seq (.reg [⟨(some 5), .mv (.k (.int .i64 1)), none, 65536, 0, []⟩])
 (.seq (.block 0 (.loop [0, 1, 5] []
  (.seq (.seq (.reg [⟨(some 6), .mv (.t 1), none, 131072, 0, []⟩,
    ⟨(some 7), .bin .gtr (.t 6) (.k (.int .i64 0)), none, 131328, 1, []⟩])
  (.cond (.t 7)
   (.skip)
   (.exit 0)))
  (.seq (.block 1 (.seq (.seq (.reg [⟨(some 10), .mv (.t 1), none, 262144, 0, []⟩,
    ⟨(some 11), .bin .rem (.t 10) (.k (.int .i64 2)), none, 262400, 1, []⟩,
    ⟨(some 12), .bin .eql (.t 11) (.k (.int .i64 1)), none, 262656, 2, []⟩])
  (.cond (.t 12)
   (.reg [⟨(some 13), .mv (.t 5), none, 327680, 0, []⟩,
     ⟨(some 14), .mv (.t 0), none, 327936, 1, []⟩,
     ⟨(some 15), .call 41 [(.t 13), (.t 14)] true, none, 328192, 2, []⟩,
     ⟨(some 5), .mv (.t 15), none, 328448, 3, []⟩])
   (.skip)))
  (.reg [⟨(some 16), .mv (.t 0), none, 393216, 0, []⟩,
    ⟨(some 17), .mv (.t 0), none, 393472, 1, []⟩,
    ⟨(some 18), .call 41 [(.t 16), (.t 17)] true, none, 393728, 2, []⟩,
    ⟨(some 0), .mv (.t 18), none, 393984, 3, []⟩])))
  (.reg [⟨(some 8), .mv (.t 1), none, 196608, 0, []⟩,
    ⟨(some 9), .bin .quo (.t 8) (.k (.int .i64 2)), none, 196864, 1, []⟩,
    ⟨(some 1), .mv (.t 9), none, 197120, 2, []⟩])))))
 (.seq (.reg [⟨(some 19), .mv (.t 5), none, 458752, 0, []⟩,
   ⟨(some 4), .mv (.t 19), none, 459008, 1, []⟩])
 (.ret))))⟩
def fns : Nat → Option F
  | 3 => some F3
  | 4 => some F4
  | 9 => some F9
  | 10 => some F10
  | 11 => some F11
  | 12 => some F12
  | 13 => some F13
  | 14 => some F14
  | 15 => some F15
  | 16 => some F16
  | 17 => some F17
  | 29 => some F29
  | 30 => some F30
  | 31 => some F31
  | 32 => some F32
  | 33 => some F33
  | 34 => some F34
  | 35 => some F35
  | 36 => some F36
  | 37 => some F37
  | 38 => some F38
  | 39 => some F39
  | 40 => some F40
  | 41 => some F41
  | 42 => some F42
  | 46 => some F46
  | 55 => some F55
  | 56 => some F56
  | 57 => some F57
  | 58 => some F58
  | 59 => some F59
  | 60 => some F60
  | 61 => some F61
  | 62 => some F62
  | 63 => some F63
  | 64 => some F64
  | 76 => some F76
  | 77 => some F77
  | _ => none
def code : Prog := ⟨fns, md, fun _ => none⟩
theorem fn3 : code.fn 3 = some F3 := rfl
theorem fn4 : code.fn 4 = some F4 := rfl
theorem fn9 : code.fn 9 = some F9 := rfl
theorem fn10 : code.fn 10 = some F10 := rfl
theorem fn11 : code.fn 11 = some F11 := rfl
theorem fn12 : code.fn 12 = some F12 := rfl
theorem fn13 : code.fn 13 = some F13 := rfl
theorem fn14 : code.fn 14 = some F14 := rfl
theorem fn15 : code.fn 15 = some F15 := rfl
theorem fn16 : code.fn 16 = some F16 := rfl
theorem fn17 : code.fn 17 = some F17 := rfl
theorem fn29 : code.fn 29 = some F29 := rfl
theorem fn30 : code.fn 30 = some F30 := rfl
theorem fn31 : code.fn 31 = some F31 := rfl
theorem fn32 : code.fn 32 = some F32 := rfl
theorem fn33 : code.fn 33 = some F33 := rfl
theorem fn34 : code.fn 34 = some F34 := rfl
theorem fn35 : code.fn 35 = some F35 := rfl
theorem fn36 : code.fn 36 = some F36 := rfl
theorem fn37 : code.fn 37 = some F37 := rfl
theorem fn38 : code.fn 38 = some F38 := rfl
theorem fn39 : code.fn 39 = some F39 := rfl
theorem fn40 : code.fn 40 = some F40 := rfl
theorem fn41 : code.fn 41 = some F41 := rfl
theorem fn42 : code.fn 42 = some F42 := rfl
theorem fn46 : code.fn 46 = some F46 := rfl
theorem fn55 : code.fn 55 = some F55 := rfl
theorem fn56 : code.fn 56 = some F56 := rfl
theorem fn57 : code.fn 57 = some F57 := rfl
theorem fn58 : code.fn 58 = some F58 := rfl
theorem fn59 : code.fn 59 = some F59 := rfl
theorem fn60 : code.fn 60 = some F60 := rfl
theorem fn61 : code.fn 61 = some F61 := rfl
theorem fn62 : code.fn 62 = some F62 := rfl
theorem fn63 : code.fn 63 = some F63 := rfl
theorem fn64 : code.fn 64 = some F64 := rfl
theorem fn76 : code.fn 76 = some F76 := rfl
theorem fn77 : code.fn 77 = some F77 := rfl
theorem rcall3 {O : Oracle} {st : St} {Q : Ex → St → Prop} {fs : List Fr} {d : Option Nat} {b i : Nat} {ap : List X} {r : List IOp} (xs : List X) (fl : Bool) : RunO O code.md (⟨d, .call 3 xs fl, none, b, i, ap⟩ :: r) fs st Q = (quietOk st (.call 3 xs fl) ap = true ∧ RunQ O code.md (callVal O st b 3 (evalXs st xs) fl) d r fs st Q) := R_call 3 xs fl rfl
theorem rcall4 {O : Oracle} {st : St} {Q : Ex → St → Prop} {fs : List Fr} {d : Option Nat} {b i : Nat} {ap : List X} {r : List IOp} (xs : List X) (fl : Bool) : RunO O code.md (⟨d, .call 4 xs fl, none, b, i, ap⟩ :: r) fs st Q = (quietOk st (.call 4 xs fl) ap = true ∧ RunQ O code.md (callVal O st b 4 (evalXs st xs) fl) d r fs st Q) := R_call 4 xs fl rfl
theorem rcall9 {O : Oracle} {st : St} {Q : Ex → St → Prop} {fs : List Fr} {d : Option Nat} {b i : Nat} {ap : List X} {r : List IOp} (xs : List X) (fl : Bool) : RunO O code.md (⟨d, .call 9 xs fl, none, b, i, ap⟩ :: r) fs st Q = (quietOk st (.call 9 xs fl) ap = true ∧ RunQ O code.md (callVal O st b 9 (evalXs st xs) fl) d r fs st Q) := R_call 9 xs fl rfl
theorem rcall10 {O : Oracle} {st : St} {Q : Ex → St → Prop} {fs : List Fr} {d : Option Nat} {b i : Nat} {ap : List X} {r : List IOp} (xs : List X) (fl : Bool) : RunO O code.md (⟨d, .call 10 xs fl, none, b, i, ap⟩ :: r) fs st Q = (quietOk st (.call 10 xs fl) ap = true ∧ RunQ O code.md (callVal O st b 10 (evalXs st xs) fl) d r fs st Q) := R_call 10 xs fl rfl
theorem rcall11 {O : Oracle} {st : St} {Q : Ex → St → Prop} {fs : List Fr} {d : Option Nat} {b i : Nat} {ap : List X} {r : List IOp} (xs : List X) (fl : Bool) : RunO O code.md (⟨d, .call 11 xs fl, none, b, i, ap⟩ :: r) fs st Q = (quietOk st (.call 11 xs fl) ap = true ∧ RunQ O code.md (callVal O st b 11 (evalXs st xs) fl) d r fs st Q) := R_call 11 xs fl rfl
theorem rcall12 {O : Oracle} {st : St} {Q : Ex → St → Prop} {fs : List Fr} {d : Option Nat} {b i : Nat} {ap : List X} {r : List IOp} (xs : List X) (fl : Bool) : RunO O code.md (⟨d, .call 12 xs fl, none, b, i, ap⟩ :: r) fs st Q = (apartOk st (.call 12 xs fl) ap = true ∧ RunW O code.md (callRef O st b 12 (evalXs st xs) fl) d r fs Q) := R_callr 12 xs fl rfl
theorem rcall13 {O : Oracle} {st : St} {Q : Ex → St → Prop} {fs : List Fr} {d : Option Nat} {b i : Nat} {ap : List X} {r : List IOp} (xs : List X) (fl : Bool) : RunO O code.md (⟨d, .call 13 xs fl, none, b, i, ap⟩ :: r) fs st Q = (quietOk st (.call 13 xs fl) ap = true ∧ RunQ O code.md (callVal O st b 13 (evalXs st xs) fl) d r fs st Q) := R_call 13 xs fl rfl
theorem rcall14 {O : Oracle} {st : St} {Q : Ex → St → Prop} {fs : List Fr} {d : Option Nat} {b i : Nat} {ap : List X} {r : List IOp} (xs : List X) (fl : Bool) : RunO O code.md (⟨d, .call 14 xs fl, none, b, i, ap⟩ :: r) fs st Q = (quietOk st (.call 14 xs fl) ap = true ∧ RunQ O code.md (callVal O st b 14 (evalXs st xs) fl) d r fs st Q) := R_call 14 xs fl rfl
theorem rcall15 {O : Oracle} {st : St} {Q : Ex → St → Prop} {fs : List Fr} {d : Option Nat} {b i : Nat} {ap : List X} {r : List IOp} (xs : List X) (fl : Bool) : RunO O code.md (⟨d, .call 15 xs fl, none, b, i, ap⟩ :: r) fs st Q = (quietOk st (.call 15 xs fl) ap = true ∧ RunQ O code.md (callVal O st b 15 (evalXs st xs) fl) d r fs st Q) := R_call 15 xs fl rfl
theorem rcall16 {O : Oracle} {st : St} {Q : Ex → St → Prop} {fs : List Fr} {d : Option Nat} {b i : Nat} {ap : List X} {r : List IOp} (xs : List X) (fl : Bool) : RunO O code.md (⟨d, .call 16 xs fl, none, b, i, ap⟩ :: r) fs st Q = (quietOk st (.call 16 xs fl) ap = true ∧ RunQ O code.md (callVal O st b 16 (evalXs st xs) fl) d r fs st Q) := R_call 16 xs fl rfl
theorem rcall17 {O : Oracle} {st : St} {Q : Ex → St → Prop} {fs : List Fr} {d : Option Nat} {b i : Nat} {ap : List X} {r : List IOp} (xs : List X) (fl : Bool) : RunO O code.md (⟨d, .call 17 xs fl, none, b, i, ap⟩ :: r) fs st Q = (quietOk st (.call 17 xs fl) ap = true ∧ RunQ O code.md (callVal O st b 17 (evalXs st xs) fl) d r fs st Q) := R_call 17 xs fl rfl
theorem rcall29 {O : Oracle} {st : St} {Q : Ex → St → Prop} {fs : List Fr} {d : Option Nat} {b i : Nat} {ap : List X} {r : List IOp} (xs : List X) (fl : Bool) : RunO O code.md (⟨d, .call 29 xs fl, none, b, i, ap⟩ :: r) fs st Q = (quietOk st (.call 29 xs fl) ap = true ∧ RunQ O code.md (callVal O st b 29 (evalXs st xs) fl) d r fs st Q) := R_call 29 xs fl rfl
theorem rcall30 {O : Oracle} {st : St} {Q : Ex → St → Prop} {fs : List Fr} {d : Option Nat} {b i : Nat} {ap : List X} {r : List IOp} (xs : List X) (fl : Bool) : RunO O code.md (⟨d, .call 30 xs fl, none, b, i, ap⟩ :: r) fs st Q = (quietOk st (.call 30 xs fl) ap = true ∧ RunQ O code.md (callVal O st b 30 (evalXs st xs) fl) d r fs st Q) := R_call 30 xs fl rfl
theorem rcall31 {O : Oracle} {st : St} {Q : Ex → St → Prop} {fs : List Fr} {d : Option Nat} {b i : Nat} {ap : List X} {r : List IOp} (xs : List X) (fl : Bool) : RunO O code.md (⟨d, .call 31 xs fl, none, b, i, ap⟩ :: r) fs st Q = (quietOk st (.call 31 xs fl) ap = true ∧ RunQ O code.md (callVal O st b 31 (evalXs st xs) fl) d r fs st Q) := R_call 31 xs fl rfl
theorem rcall32 {O : Oracle} {st : St} {Q : Ex → St → Prop} {fs : List Fr} {d : Option Nat} {b i : Nat} {ap : List X} {r : List IOp} (xs : List X) (fl : Bool) : RunO O code.md (⟨d, .call 32 xs fl, none, b, i, ap⟩ :: r) fs st Q = (quietOk st (.call 32 xs fl) ap = true ∧ RunQ O code.md (callVal O st b 32 (evalXs st xs) fl) d r fs st Q) := R_call 32 xs fl rfl
theorem rcall33 {O : Oracle} {st : St} {Q : Ex → St → Prop} {fs : List Fr} {d : Option Nat} {b i : Nat} {ap : List X} {r : List IOp} (xs : List X) (fl : Bool) : RunO O code.md (⟨d, .call 33 xs fl, none, b, i, ap⟩ :: r) fs st Q = (apartOk st (.call 33 xs fl) ap = true ∧ RunW O code.md (callRef O st b 33 (evalXs st xs) fl) d r fs Q) := R_callr 33 xs fl rfl
theorem rcall34 {O : Oracle} {st : St} {Q : Ex → St → Prop} {fs : List Fr} {d : Option Nat} {b i : Nat} {ap : List X} {r : List IOp} (xs : List X) (fl : Bool) : RunO O code.md (⟨d, .call 34 xs fl, none, b, i, ap⟩ :: r) fs st Q = (quietOk st (.call 34 xs fl) ap = true ∧ RunQ O code.md (callVal O st b 34 (evalXs st xs) fl) d r fs st Q) := R_call 34 xs fl rfl
theorem rcall35 {O : Oracle} {st : St} {Q : Ex → St → Prop} {fs : List Fr} {d : Option Nat} {b i : Nat} {ap : List X} {r : List IOp} (xs : List X) (fl : Bool) : RunO O code.md (⟨d, .call 35 xs fl, none, b, i, ap⟩ :: r) fs st Q = (quietOk st (.call 35 xs fl) ap = true ∧ RunQ O code.md (callVal O st b 35 (evalXs st xs) fl) d r fs st Q) := R_call 35 xs fl rfl
theorem rcall36 {O : Oracle} {st : St} {Q : Ex → St → Prop} {fs : List Fr} {d : Option Nat} {b i : Nat} {ap : List X} {r : List IOp} (xs : List X) (fl : Bool) : RunO O code.md (⟨d, .call 36 xs fl, none, b, i, ap⟩ :: r) fs st Q = (quietOk st (.call 36 xs fl) ap = true ∧ RunQ O code.md (callVal O st b 36 (evalXs st xs) fl) d r fs st Q) := R_call 36 xs fl rfl
theorem rcall37 {O : Oracle} {st : St} {Q : Ex → St → Prop} {fs : List Fr} {d : Option Nat} {b i : Nat} {ap : List X} {r : List IOp} (xs : List X) (fl : Bool) : RunO O code.md (⟨d, .call 37 xs fl, none, b, i, ap⟩ :: r) fs st Q = (quietOk st (.call 37 xs fl) ap = true ∧ RunQ O code.md (callVal O st b 37 (evalXs st xs) fl) d r fs st Q) := R_call 37 xs fl rfl
theorem rcall38 {O : Oracle} {st : St} {Q : Ex → St → Prop} {fs : List Fr} {d : Option Nat} {b i : Nat} {ap : List X} {r : List IOp} (xs : List X) (fl : Bool) : RunO O code.md (⟨d, .call 38 xs fl, none, b, i, ap⟩ :: r) fs st Q = (quietOk st (.call 38 xs fl) ap = true ∧ RunQ O code.md (callVal O st b 38 (evalXs st xs) fl) d r fs st Q) := R_call 38 xs fl rfl
theorem rcall39 {O : Oracle} {st : St} {Q : Ex → St → Prop} {fs : List Fr} {d : Option Nat} {b i : Nat} {ap : List X} {r : List IOp} (xs : List X) (fl : Bool) : RunO O code.md (⟨d, .call 39 xs fl, none, b, i, ap⟩ :: r) fs st Q = (quietOk st (.call 39 xs fl) ap = true ∧ RunQ O code.md (callVal O st b 39 (evalXs st xs) fl) d r fs st Q) := R_call 39 xs fl rfl
theorem rcall40 {O : Oracle} {st : St} {Q : Ex → St → Prop} {fs : List Fr} {d : Option Nat} {b i : Nat} {ap : List X} {r : List IOp} (xs : List X) (fl : Bool) : RunO O code.md (⟨d, .call 40 xs fl, none, b, i, ap⟩ :: r) fs st Q = (apartOk st (.call 40 xs fl) ap = true ∧ RunW O code.md (callRef O st b 40 (evalXs st xs) fl) d r fs Q) := R_callr 40 xs fl rfl
theorem rcall41 {O : Oracle} {st : St} {Q : Ex → St → Prop} {fs : List Fr} {d : Option Nat} {b i : Nat} {ap : List X} {r : List IOp} (xs : List X) (fl : Bool) : RunO O code.md (⟨d, .call 41 xs fl, none, b, i, ap⟩ :: r) fs st Q = (quietOk st (.call 41 xs fl) ap = true ∧ RunQ O code.md (callVal O st b 41 (evalXs st xs) fl) d r fs st Q) := R_call 41 xs fl rfl
theorem rcall42 {O : Oracle} {st : St} {Q : Ex → St → Prop} {fs : List Fr} {d : Option Nat} {b i : Nat} {ap : List X} {r : List IOp} (xs : List X) (fl : Bool) : RunO O code.md (⟨d, .call 42 xs fl, none, b, i, ap⟩ :: r) fs st Q = (quietOk st (.call 42 xs fl) ap = true ∧ RunQ O code.md (callVal O st b 42 (evalXs st xs) fl) d r fs st Q) := R_call 42 xs fl rfl
theorem rcall46 {O : Oracle} {st : St} {Q : Ex → St → Prop} {fs : List Fr} {d : Option Nat} {b i : Nat} {ap : List X} {r : List IOp} (xs : List X) (fl : Bool) : RunO O code.md (⟨d, .call 46 xs fl, none, b, i, ap⟩ :: r) fs st Q = (quietOk st (.call 46 xs fl) ap = true ∧ RunQ O code.md (callVal O st b 46 (evalXs st xs) fl) d r fs st Q) := R_call 46 xs fl rfl
theorem rcall55 {O : Oracle} {st : St} {Q : Ex → St → Prop} {fs : List Fr} {d : Option Nat} {b i : Nat} {ap : List X} {r : List IOp} (xs : List X) (fl : Bool) : RunO O code.md (⟨d, .call 55 xs fl, none, b, i, ap⟩ :: r) fs st Q = (quietOk st (.call 55 xs fl) ap = true ∧ RunQ O code.md (callVal O st b 55 (evalXs st xs) fl) d r fs st Q) := R_call 55 xs fl rfl
theorem rcall56 {O : Oracle} {st : St} {Q : Ex → St → Prop} {fs : List Fr} {d : Option Nat} {b i : Nat} {ap : List X} {r : List IOp} (xs : List X) (fl : Bool) : RunO O code.md (⟨d, .call 56 xs fl, none, b, i, ap⟩ :: r) fs st Q = (quietOk st (.call 56 xs fl) ap = true ∧ RunQ O code.md (callVal O st b 56 (evalXs st xs) fl) d r fs st Q) := R_call 56 xs fl rfl
theorem rcall57 {O : Oracle} {st : St} {Q : Ex → St → Prop} {fs : List Fr} {d : Option Nat} {b i : Nat} {ap : List X} {r : List IOp} (xs : List X) (fl : Bool) : RunO O code.md (⟨d, .call 57 xs fl, none, b, i, ap⟩ :: r) fs st Q = (quietOk st (.call 57 xs fl) ap = true ∧ RunQ O code.md (callVal O st b 57 (evalXs st xs) fl) d r fs st Q) := R_call 57 xs fl rfl
theorem rcall58 {O : Oracle} {st : St} {Q : Ex → St → Prop} {fs : List Fr} {d : Option Nat} {b i : Nat} {ap : List X} {r : List IOp} (xs : List X) (fl : Bool) : RunO O code.md (⟨d, .call 58 xs fl, none, b, i, ap⟩ :: r) fs st Q = (quietOk st (.call 58 xs fl) ap = true ∧ RunQ O code.md (callVal O st b 58 (evalXs st xs) fl) d r fs st Q) := R_call 58 xs fl rfl
theorem rcall59 {O : Oracle} {st : St} {Q : Ex → St → Prop} {fs : List Fr} {d : Option Nat} {b i : Nat} {ap : List X} {r : List IOp} (xs : List X) (fl : Bool) : RunO O code.md (⟨d, .call 59 xs fl, none, b, i, ap⟩ :: r) fs st Q = (quietOk st (.call 59 xs fl) ap = true ∧ RunQ O code.md (callVal O st b 59 (evalXs st xs) fl) d r fs st Q) := R_call 59 xs fl rfl
theorem rcall60 {O : Oracle} {st : St} {Q : Ex → St → Prop} {fs : List Fr} {d : Option Nat} {b i : Nat} {ap : List X} {r : List IOp} (xs : List X) (fl : Bool) : RunO O code.md (⟨d, .call 60 xs fl, none, b, i, ap⟩ :: r) fs st Q = (quietOk st (.call 60 xs fl) ap = true ∧ RunQ O code.md (callVal O st b 60 (evalXs st xs) fl) d r fs st Q) := R_call 60 xs fl rfl
theorem rcall61 {O : Oracle} {st : St} {Q : Ex → St → Prop} {fs : List Fr} {d : Option Nat} {b i : Nat} {ap : List X} {r : List IOp} (xs : List X) (fl : Bool) : RunO O code.md (⟨d, .call 61 xs fl, none, b, i, ap⟩ :: r) fs st Q = (quietOk st (.call 61 xs fl) ap = true ∧ RunQ O code.md (callVal O st b 61 (evalXs st xs) fl) d r fs st Q) := R_call 61 xs fl rfl
theorem rcall62 {O : Oracle} {st : St} {Q : Ex → St → Prop} {fs : List Fr} {d : Option Nat} {b i : Nat} {ap : List X} {r : List IOp} (xs : List X) (fl : Bool) : RunO O code.md (⟨d, .call 62 xs fl, none, b, i, ap⟩ :: r) fs st Q = (quietOk st (.call 62 xs fl) ap = true ∧ RunQ O code.md (callVal O st b 62 (evalXs st xs) fl) d r fs st Q) := R_call 62 xs fl rfl
theorem rcall63 {O : Oracle} {st : St} {Q : Ex → St → Prop} {fs : List Fr} {d : Option Nat} {b i : Nat} {ap : List X} {r : List IOp} (xs : List X) (fl : Bool) : RunO O code.md (⟨d, .call 63 xs fl, none, b, i, ap⟩ :: r) fs st Q = (quietOk st (.call 63 xs fl) ap = true ∧ RunQ O code.md (callVal O st b 63 (evalXs st xs) fl) d r fs st Q) := R_call 63 xs fl rfl
theorem rcall64 {O : Oracle} {st : St} {Q : Ex → St → Prop} {fs : List Fr} {d : Option Nat} {b i : Nat} {ap : List X} {r : List IOp} (xs : List X) (fl : Bool) : RunO O code.md (⟨d, .call 64 xs fl, none, b, i, ap⟩ :: r) fs st Q = (quietOk st (.call 64 xs fl) ap = true ∧ RunQ O code.md (callVal O st b 64 (evalXs st xs) fl) d r fs st Q) := R_call 64 xs fl rfl
theorem rcall76 {O : Oracle} {st : St} {Q : Ex → St → Prop} {fs : List Fr} {d : Option Nat} {b i : Nat} {ap : List X} {r : List IOp} (xs : List X) (fl : Bool) : RunO O code.md (⟨d, .call 76 xs fl, none, b, i, ap⟩ :: r) fs st Q = (quietOk st (.call 76 xs fl) ap = true ∧ RunQ O code.md (callVal O st b 76 (evalXs st xs) fl) d r fs st Q) := R_call 76 xs fl rfl
theorem rcall77 {O : Oracle} {st : St} {Q : Ex → St → Prop} {fs : List Fr} {d : Option Nat} {b i : Nat} {ap : List X} {r : List IOp} (xs : List X) (fl : Bool) : RunO O code.md (⟨d, .call 77 xs fl, none, b, i, ap⟩ :: r) fs st Q = (quietOk st (.call 77 xs fl) ap = true ∧ RunQ O code.md (callVal O st b 77 (evalXs st xs) fl) d r fs st Q) := R_call 77 xs fl rfl
end Go.Ae.R2
