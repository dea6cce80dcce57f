/- The code of the functions, for the evaluator. -/
import Derived.Test.YtfhkgkbglihnkaaAeWp
namespace Go.Ae.R7

def md : Nat → Mode := fun _ => .val
/-- loop.example/g00849/laws.FnExactSendTo -/
def F3 : F := ⟨2, 95, [.t 4],
 .seq (.reg [⟨(some 2), .box (.t 0), none, 0, 0, []⟩,
   ⟨(some 4), .mv (.k (.bool false)), none, 256, 1, []⟩])
 (.seq (.reg [⟨(some 5), .mv (.k (.int .i64 1048576)), none, 65536, 0, []⟩])
 (.seq (.reg [⟨(some 17), .load 10 true (.t 2), none, 131072, 0, []⟩,
   ⟨(some 18), .mv (.t 5), none, 131328, 1, []⟩,
   ⟨(some 19), .call 4 [(.t 17), (.t 18)] true, none, 131584, 2, []⟩,
   ⟨(some 5), .mv (.t 19), none, 131840, 3, []⟩])
 (.seq (.seq (.reg [⟨(some 20), .mv (.t 5), none, 196608, 0, []⟩,
   ⟨(some 21), .bin .lss (.t 20) (.k (.int .i64 0)), none, 196864, 1, []⟩])
 (.cond (.t 21)
  (.seq (.reg [⟨(some 4), .mv (.k (.bool true)), none, 262144, 0, []⟩])
  (.ret))
  (.skip)))
 (.seq (.reg [⟨(some 23), .load 10 true (.t 2), none, 327680, 0, []⟩,
   ⟨(some 24), .call 6 [(.t 23)] true, none, 327936, 1, []⟩,
   ⟨(some 25), .mv (.t 1), none, 328192, 2, []⟩,
   ⟨(some 26), .call 5 [(.t 24), (.t 25)] false, none, 328448, 3, []⟩,
   ⟨(some 22), .mv (.t 26), none, 328704, 4, []⟩,
   ⟨(some 27), .ext (.t 22) 0, none, 328960, 5, []⟩,
   ⟨(some 28), .ext (.t 22) 1, none, 329216, 6, []⟩,
   ⟨(some 29), .ext (.t 22) 2, none, 329472, 7, []⟩,
   ⟨(some 6), .alloc [(.int .i64 0), (.int .i64 0), (.bool false), (.int .i64 0), (.int .i64 0), (.str ByteArray.empty), (.int .i64 0), (.int .i64 0), (.str ByteArray.empty), (.int .i64 0)], none, 329728, 8, []⟩,
   ⟨(some 7), .alloc [(.int .i64 0), (.int .i64 0), (.int .i64 0), (.int .i64 0), (.int .i64 0), (.int .i64 0), (.str ByteArray.empty), (.int .i64 0), (.int .i64 0), (.int .i64 0), (.int .i64 0), (.int .i64 0), (.int .i64 0), (.int .i64 0), (.int .i64 0), (.int .i64 0), (.int .i64 0), (.nil true 5), (.nil true 4), (.nil true 10), (.int .i64 0), (.int .i64 0), (.nil true 6), (.int .i64 0), (.int .i64 0), (.int .i64 0), (.int .i64 0), (.str ByteArray.empty), (.bool false), (.int .i64 0), (.int .i64 0), (.int .i64 0), (.int .i64 0), (.str ByteArray.empty), (.int .i64 0), (.int .i64 0), (.int .i64 0), (.int .i64 0), (.str ByteArray.empty), (.int .i64 0), (.int .i64 0), (.str ByteArray.empty), (.int .i64 0), (.int .i64 0), (.int .i64 0), (.str ByteArray.empty)], none, 329984, 9, []⟩,
   ⟨none, .store 10 (.t 6) (.t 27), none, 330240, 10, []⟩,
   ⟨none, .store 46 (.t 7) (.t 28), none, 330496, 11, []⟩,
   ⟨(some 8), .mv (.t 29), none, 330752, 12, []⟩])
 (.seq (.reg [⟨(some 31), .load 10 true (.t 2), none, 393216, 0, []⟩,
   ⟨(some 32), .call 6 [(.t 31)] true, none, 393472, 1, []⟩,
   ⟨(some 33), .mv (.t 1), none, 393728, 2, []⟩,
   ⟨(some 34), .call 7 [(.t 32), (.t 33)] false, none, 393984, 3, []⟩,
   ⟨(some 30), .mv (.t 34), none, 394240, 4, []⟩,
   ⟨(some 35), .ext (.t 30) 0, none, 394496, 5, []⟩,
   ⟨(some 36), .ext (.t 30) 1, none, 394752, 6, []⟩,
   ⟨(some 37), .ext (.t 30) 2, none, 395008, 7, []⟩,
   ⟨(some 9), .alloc [(.int .i64 0), (.int .i64 0), (.bool false), (.int .i64 0), (.int .i64 0), (.str ByteArray.empty), (.int .i64 0), (.int .i64 0), (.str ByteArray.empty), (.int .i64 0)], none, 395264, 8, []⟩,
   ⟨(some 10), .alloc [(.int .i64 0), (.int .i64 0), (.int .i64 0), (.int .i64 0), (.int .i64 0), (.int .i64 0), (.str ByteArray.empty), (.int .i64 0), (.int .i64 0), (.int .i64 0), (.int .i64 0), (.int .i64 0), (.int .i64 0), (.int .i64 0), (.int .i64 0), (.int .i64 0), (.int .i64 0), (.nil true 5), (.nil true 4), (.nil true 10), (.int .i64 0), (.int .i64 0), (.nil true 6), (.int .i64 0), (.int .i64 0), (.int .i64 0), (.int .i64 0), (.str ByteArray.empty), (.bool false), (.int .i64 0), (.int .i64 0), (.int .i64 0), (.int .i64 0), (.str ByteArray.empty), (.int .i64 0), (.int .i64 0), (.int .i64 0), (.int .i64 0), (.str ByteArray.empty), (.int .i64 0), (.int .i64 0), (.str ByteArray.empty), (.int .i64 0), (.int .i64 0), (.int .i64 0), (.str ByteArray.empty)], none, 395520, 9, []⟩,
   ⟨none, .store 10 (.t 9) (.t 35), none, 395776, 10, []⟩,
   ⟨none, .store 46 (.t 10) (.t 36), none, 396032, 11, []⟩,
   ⟨(some 11), .mv (.t 37), none, 396288, 12, []⟩])
 (.seq (.seq (.reg [⟨(some 38), .load 10 true (.t 9), none, 458752, 0, []⟩,
   ⟨(some 39), .load 10 true (.t 6), none, 459008, 1, []⟩,
   ⟨(some 40), .call 8 [(.t 38), (.t 39)] true, none, 459264, 2, []⟩,
   ⟨(some 41), .not (.t 40), none, 459520, 3, []⟩,
   ⟨(some 42), .mv (.t 41), none, 459776, 4, []⟩,
   ⟨(some 43), .load 46 true (.t 10), (some (some 42, false)), 460032, 5, []⟩,
   ⟨(some 44), .load 46 true (.t 7), (some (some 42, false)), 460288, 6, []⟩,
   ⟨(some 45), .call 9 [(.t 43), (.t 44)] true, (some (some 42, false)), 460544, 7, []⟩,
   ⟨(some 46), .not (.t 45), (some (some 42, false)), 460800, 8, []⟩,
   ⟨(some 47), .pick (.t 42) (.k (.bool true)) (.t 46), none, 461056, 9, []⟩,
   ⟨(some 48), .mv (.t 47), none, 461312, 10, []⟩,
   ⟨(some 49), .mv (.t 11), (some (some 48, false)), 461568, 11, []⟩,
   ⟨(some 50), .mv (.t 8), (some (some 48, false)), 461824, 12, []⟩,
   ⟨(some 51), .eqv true false [.b] (.t 49) (.t 50), (some (some 48, false)), 462080, 13, []⟩,
   ⟨(some 52), .pick (.t 48) (.k (.bool true)) (.t 51), none, 462336, 14, []⟩])
 (.cond (.t 52)
  (.seq (.reg [⟨(some 4), .mv (.k (.bool false)), none, 524288, 0, []⟩])
  (.ret))
  (.skip)))
 (.seq (.reg [⟨(some 12), .mv (.k (.int .i64 1)), none, 589824, 0, []⟩])
 (.seq (.reg [⟨(some 53), .load 46 true (.t 10), none, 655360, 0, []⟩,
   ⟨(some 54), .mv (.t 12), none, 655616, 1, []⟩,
   ⟨(some 55), .call 10 [(.t 53), (.t 54)] true, none, 655872, 2, []⟩,
   ⟨(some 12), .mv (.t 55), none, 656128, 3, []⟩])
 (.seq (.reg [⟨(some 13), .mv (.k (.int .i64 1)), none, 720896, 0, []⟩])
 (.seq (.reg [⟨(some 56), .load 46 true (.t 10), none, 786432, 0, []⟩,
   ⟨(some 57), .mv (.t 13), none, 786688, 1, []⟩,
   ⟨(some 58), .call 11 [(.t 56), (.t 57)] true, none, 786944, 2, []⟩,
   ⟨(some 13), .mv (.t 58), none, 787200, 3, []⟩])
 (.seq (.seq (.reg [⟨(some 59), .mv (.t 13), none, 851968, 0, []⟩,
   ⟨(some 60), .bin .lss (.t 59) (.k (.int .i64 0)), none, 852224, 1, []⟩])
 (.cond (.t 60)
  (.seq (.reg [⟨(some 4), .mv (.k (.bool false)), none, 917504, 0, []⟩])
  (.ret))
  (.skip)))
 (.seq (.seq (.reg [⟨(some 61), .mv (.t 13), none, 983040, 0, []⟩,
   ⟨(some 62), .mv (.t 12), none, 983296, 1, []⟩,
   ⟨(some 63), .bin .neq (.t 61) (.t 62), none, 983552, 2, []⟩])
 (.cond (.t 63)
  (.seq (.reg [⟨(some 4), .mv (.k (.bool false)), none, 1048576, 0, []⟩])
  (.ret))
  (.skip)))
 (.seq (.reg [⟨(some 65), .load 10 true (.t 2), none, 1114112, 0, []⟩,
   ⟨(some 66), .call 6 [(.t 65)] true, none, 1114368, 1, []⟩,
   ⟨(some 67), .mv (.t 1), none, 1114624, 2, []⟩,
   ⟨(some 68), .call 7 [(.t 66), (.t 67)] false, none, 1114880, 3, []⟩,
   ⟨(some 64), .mv (.t 68), none, 1115136, 4, []⟩,
   ⟨(some 69), .ext (.t 64) 0, none, 1115392, 5, []⟩,
   ⟨(some 70), .ext (.t 64) 1, none, 1115648, 6, []⟩,
   ⟨(some 71), .ext (.t 64) 2, none, 1115904, 7, []⟩,
   ⟨(some 14), .alloc [(.int .i64 0), (.int .i64 0), (.bool false), (.int .i64 0), (.int .i64 0), (.str ByteArray.empty), (.int .i64 0), (.int .i64 0), (.str ByteArray.empty), (.int .i64 0)], none, 1116160, 8, []⟩,
   ⟨(some 15), .alloc [(.int .i64 0), (.int .i64 0), (.int .i64 0), (.int .i64 0), (.int .i64 0), (.int .i64 0), (.str ByteArray.empty), (.int .i64 0), (.int .i64 0), (.int .i64 0), (.int .i64 0), (.int .i64 0), (.int .i64 0), (.int .i64 0), (.int .i64 0), (.int .i64 0), (.int .i64 0), (.nil true 5), (.nil true 4), (.nil true 10), (.int .i64 0), (.int .i64 0), (.nil true 6), (.int .i64 0), (.int .i64 0), (.int .i64 0), (.int .i64 0), (.str ByteArray.empty), (.bool false), (.int .i64 0), (.int .i64 0), (.int .i64 0), (.int .i64 0), (.str ByteArray.empty), (.int .i64 0), (.int .i64 0), (.int .i64 0), (.int .i64 0), (.str ByteArray.empty), (.int .i64 0), (.int .i64 0), (.str ByteArray.empty), (.int .i64 0), (.int .i64 0), (.int .i64 0), (.str ByteArray.empty)], none, 1116416, 9, []⟩,
   ⟨none, .store 10 (.t 14) (.t 69), none, 1116672, 10, []⟩,
   ⟨none, .store 46 (.t 15) (.t 70), none, 1116928, 11, []⟩,
   ⟨(some 16), .mv (.t 71), none, 1117184, 12, []⟩])
 (.seq (.seq (.reg [⟨(some 72), .load 10 true (.t 14), none, 1179648, 0, []⟩,
   ⟨(some 73), .load 10 true (.t 6), none, 1179904, 1, []⟩,
   ⟨(some 74), .call 8 [(.t 72), (.t 73)] true, none, 1180160, 2, []⟩,
   ⟨(some 75), .not (.t 74), none, 1180416, 3, []⟩,
   ⟨(some 76), .mv (.t 75), none, 1180672, 4, []⟩,
   ⟨(some 77), .load 46 true (.t 15), (some (some 76, false)), 1180928, 5, []⟩,
   ⟨(some 78), .load 46 true (.t 7), (some (some 76, false)), 1181184, 6, []⟩,
   ⟨(some 79), .call 9 [(.t 77), (.t 78)] true, (some (some 76, false)), 1181440, 7, []⟩,
   ⟨(some 80), .not (.t 79), (some (some 76, false)), 1181696, 8, []⟩,
   ⟨(some 81), .pick (.t 76) (.k (.bool true)) (.t 80), none, 1181952, 9, []⟩,
   ⟨(some 82), .mv (.t 81), none, 1182208, 10, []⟩,
   ⟨(some 83), .mv (.t 16), (some (some 82, false)), 1182464, 11, []⟩,
   ⟨(some 84), .mv (.t 8), (some (some 82, false)), 1182720, 12, []⟩,
   ⟨(some 85), .eqv true false [.b] (.t 83) (.t 84), (some (some 82, false)), 1182976, 13, []⟩,
   ⟨(some 86), .pick (.t 82) (.k (.bool true)) (.t 85), none, 1183232, 14, []⟩])
 (.cond (.t 86)
  (.seq (.reg [⟨(some 4), .mv (.k (.bool false)), none, 1245184, 0, []⟩])
  (.ret))
  (.skip)))
 (.seq (.reg [⟨(some 13), .mv (.k (.int .i64 1)), none, 1310720, 0, []⟩])
 (.seq (.reg [⟨(some 87), .load 46 true (.t 10), none, 1376256, 0, []⟩,
   ⟨(some 88), .mv (.t 13), none, 1376512, 1, []⟩,
   ⟨(some 89), .call 11 [(.t 87), (.t 88)] true, none, 1376768, 2, []⟩,
   ⟨(some 13), .mv (.t 89), none, 1377024, 3, []⟩])
 (.seq (.seq (.reg [⟨(some 90), .mv (.t 13), none, 1441792, 0, []⟩,
   ⟨(some 91), .bin .lss (.t 90) (.k (.int .i64 0)), none, 1442048, 1, []⟩])
 (.cond (.t 91)
  (.seq (.reg [⟨(some 4), .mv (.k (.bool false)), none, 1507328, 0, []⟩])
  (.ret))
  (.skip)))
 (.seq (.seq (.reg [⟨(some 92), .mv (.t 13), none, 1572864, 0, []⟩,
   ⟨(some 93), .mv (.t 12), none, 1573120, 1, []⟩,
   ⟨(some 94), .bin .neq (.t 92) (.t 93), none, 1573376, 2, []⟩])
 (.cond (.t 94)
  (.seq (.reg [⟨(some 4), .mv (.k (.bool false)), none, 1638400, 0, []⟩])
  (.ret))
  (.skip)))
 (.seq (.reg [⟨(some 4), .mv (.k (.bool true)), none, 1703936, 0, []⟩])
 (.ret))))))))))))))))))))⟩
/-- loop.example/g00849/laws.szClient -/
def F4 : F := ⟨2, 19, [.t 4],
 .seq (.reg [⟨(some 2), .box (.t 0), none, 0, 0, []⟩,
   ⟨(some 4), .mv (.k (.int .i64 0)), none, 256, 1, []⟩])
 (.seq (.reg [⟨(some 5), .mv (.t 1), none, 65536, 0, []⟩,
   ⟨(some 6), .faddr 5 (.t 2), none, 65792, 1, []⟩,
   ⟨(some 7), .load 1 false (.t 6), none, 66048, 2, []⟩,
   ⟨(some 8), .len true (.t 7), none, 66304, 3, []⟩,
   ⟨(some 9), .bin .sub (.t 5) (.t 8), none, 66560, 4, []⟩,
   ⟨(some 1), .mv (.t 9), none, 66816, 5, []⟩])
 (.seq (.seq (.reg [⟨(some 10), .mv (.t 1), none, 131072, 0, []⟩,
   ⟨(some 11), .bin .lss (.t 10) (.k (.int .i64 0)), none, 131328, 1, []⟩])
 (.cond (.t 11)
  (.seq (.reg [⟨(some 4), .mv (.k (.int .i64 (-1))), none, 196608, 0, []⟩])
  (.ret))
  (.skip)))
 (.seq (.reg [⟨(some 12), .faddr 6 (.t 2), none, 262144, 0, []⟩,
   ⟨(some 13), .load 3 true (.t 12), none, 262400, 1, []⟩,
   ⟨(some 14), .mv (.t 1), none, 262656, 2, []⟩,
   ⟨(some 15), .call 12 [(.t 13), (.t 14)] true, none, 262912, 3, []⟩,
   ⟨(some 1), .mv (.t 15), none, 263168, 4, []⟩])
 (.seq (.seq (.reg [⟨(some 16), .mv (.t 1), none, 327680, 0, []⟩,
   ⟨(some 17), .bin .lss (.t 16) (.k (.int .i64 0)), none, 327936, 1, []⟩])
 (.cond (.t 17)
  (.seq (.reg [⟨(some 4), .mv (.k (.int .i64 (-1))), none, 393216, 0, []⟩])
  (.ret))
  (.skip)))
 (.seq (.reg [⟨(some 18), .mv (.t 1), none, 458752, 0, []⟩,
   ⟨(some 4), .mv (.t 18), none, 459008, 1, []⟩])
 (.ret))))))⟩
/-- loop.example/g00849/spec.SendTo -/
def F5 : F := ⟨2, 49, [.cell 4 10 true, .cell 5 46 true, .t 6],
 .seq (.reg [⟨(some 2), .box (.t 0), none, 0, 0, []⟩,
   ⟨(some 4), .alloc [(.int .i64 0), (.int .i64 0), (.bool false), (.int .i64 0), (.int .i64 0), (.str ByteArray.empty), (.int .i64 0), (.int .i64 0), (.str ByteArray.empty), (.int .i64 0)], none, 256, 1, []⟩,
   ⟨(some 5), .alloc [(.int .i64 0), (.int .i64 0), (.int .i64 0), (.int .i64 0), (.int .i64 0), (.int .i64 0), (.str ByteArray.empty), (.int .i64 0), (.int .i64 0), (.int .i64 0), (.int .i64 0), (.int .i64 0), (.int .i64 0), (.int .i64 0), (.int .i64 0), (.int .i64 0), (.int .i64 0), (.nil true 5), (.nil true 4), (.nil true 10), (.int .i64 0), (.int .i64 0), (.nil true 6), (.int .i64 0), (.int .i64 0), (.int .i64 0), (.int .i64 0), (.str ByteArray.empty), (.bool false), (.int .i64 0), (.int .i64 0), (.int .i64 0), (.int .i64 0), (.str ByteArray.empty), (.int .i64 0), (.int .i64 0), (.int .i64 0), (.int .i64 0), (.str ByteArray.empty), (.int .i64 0), (.int .i64 0), (.str ByteArray.empty), (.int .i64 0), (.int .i64 0), (.int .i64 0), (.str ByteArray.empty)], none, 512, 2, []⟩,
   ⟨(some 6), .mv (.k (.bool false)), none, 768, 3, []⟩])
 (.seq (.seq (.reg [⟨(some 8), .load 10 true (.t 2), none, 65536, 0, []⟩,
   ⟨(some 9), .call 13 [(.t 8)] true, none, 65792, 1, []⟩,
   ⟨(some 10), .not (.t 9), none, 66048, 2, []⟩])
 (.cond (.t 10)
  (.seq (.reg [⟨(some 11), .build [(.int .i64 0), (.int .i64 0), (.bool false), (.int .i64 0), (.int .i64 0), (.str ByteArray.empty), (.int .i64 0), (.int .i64 0), (.str ByteArray.empty), (.int .i64 0)] [], none, 131072, 0, []⟩,
    ⟨(some 12), .build [(.int .i64 0), (.int .i64 0), (.int .i64 0), (.int .i64 0), (.int .i64 0), (.int .i64 0), (.str ByteArray.empty), (.int .i64 0), (.int .i64 0), (.int .i64 0), (.int .i64 0), (.int .i64 0), (.int .i64 0), (.int .i64 0), (.int .i64 0), (.int .i64 0), (.int .i64 0), (.nil true 5), (.nil true 4), (.nil true 10), (.int .i64 0), (.int .i64 0), (.nil true 6), (.int .i64 0), (.int .i64 0), (.int .i64 0), (.int .i64 0), (.str ByteArray.empty), (.bool false), (.int .i64 0), (.int .i64 0), (.int .i64 0), (.int .i64 0), (.str ByteArray.empty), (.int .i64 0), (.int .i64 0), (.int .i64 0), (.int .i64 0), (.str ByteArray.empty), (.int .i64 0), (.int .i64 0), (.str ByteArray.empty), (.int .i64 0), (.int .i64 0), (.int .i64 0), (.str ByteArray.empty)] [], none, 131328, 1, []⟩,
    ⟨none, .store 10 (.t 4) (.t 11), none, 131584, 2, []⟩,
    ⟨none, .store 46 (.t 5) (.t 12), none, 131840, 3, []⟩,
    ⟨(some 6), .mv (.k (.bool false)), none, 132096, 4, []⟩])
  (.ret))
  (.skip)))
 (.seq (.seq (.reg [⟨(some 13), .faddr 2 (.t 2), none, 196608, 0, []⟩,
   ⟨(some 14), .load 1 false (.t 13), none, 196864, 1, []⟩,
   ⟨(some 15), .not (.t 14), none, 197120, 2, []⟩,
   ⟨(some 16), .mv (.t 15), none, 197376, 3, []⟩,
   ⟨(some 17), .mv (.t 1), (some (some 16, false)), 197632, 4, []⟩,
   ⟨(some 18), .call 14 [(.t 17)] true, (some (some 16, false)), 197888, 5, []⟩,
   ⟨(some 19), .not (.t 18), (some (some 16, false)), 198144, 6, []⟩,
   ⟨(some 20), .pick (.t 16) (.k (.bool true)) (.t 19), none, 198400, 7, []⟩,
   ⟨(some 21), .mv (.t 20), none, 198656, 8, []⟩,
   ⟨(some 22), .faddr 9 (.t 2), (some (some 21, false)), 198912, 9, []⟩,
   ⟨(some 23), .load 1 false (.t 22), (some (some 21, false)), 199168, 10, []⟩,
   ⟨(some 24), .bin .geq (.t 23) (.k (.int .i64 1000)), (some (some 21, false)), 199424, 11, []⟩,
   ⟨(some 25), .pick (.t 21) (.k (.bool true)) (.t 24), none, 199680, 12, []⟩])
 (.cond (.t 25)
  (.seq (.reg [⟨(some 26), .load 10 true (.t 2), none, 262144, 0, []⟩,
    ⟨(some 27), .build [(.int .i64 0), (.int .i64 0), (.int .i64 0), (.int .i64 0), (.int .i64 0), (.int .i64 0), (.str ByteArray.empty), (.int .i64 0), (.int .i64 0), (.int .i64 0), (.int .i64 0), (.int .i64 0), (.int .i64 0), (.int .i64 0), (.int .i64 0), (.int .i64 0), (.int .i64 0), (.nil true 5), (.nil true 4), (.nil true 10), (.int .i64 0), (.int .i64 0), (.nil true 6), (.int .i64 0), (.int .i64 0), (.int .i64 0), (.int .i64 0), (.str ByteArray.empty), (.bool false), (.int .i64 0), (.int .i64 0), (.int .i64 0), (.int .i64 0), (.str ByteArray.empty), (.int .i64 0), (.int .i64 0), (.int .i64 0), (.int .i64 0), (.str ByteArray.empty), (.int .i64 0), (.int .i64 0), (.str ByteArray.empty), (.int .i64 0), (.int .i64 0), (.int .i64 0), (.str ByteArray.empty)] [], none, 262400, 1, []⟩,
    ⟨none, .store 10 (.t 4) (.t 26), none, 262656, 2, []⟩,
    ⟨none, .store 46 (.t 5) (.t 27), none, 262912, 3, []⟩,
    ⟨(some 6), .mv (.k (.bool false)), none, 263168, 4, []⟩])
  (.ret))
  (.skip)))
 (.seq (.reg [⟨(some 28), .load 10 true (.t 2), none, 327680, 0, []⟩,
   ⟨(some 7), .alloc [(.int .i64 0), (.int .i64 0), (.bool false), (.int .i64 0), (.int .i64 0), (.str ByteArray.empty), (.int .i64 0), (.int .i64 0), (.str ByteArray.empty), (.int .i64 0)], none, 327936, 1, []⟩,
   ⟨none, .store 10 (.t 7) (.t 28), none, 328192, 2, []⟩])
 (.seq (.reg [⟨(some 29), .faddr 9 (.t 2), none, 393216, 0, []⟩,
   ⟨(some 30), .load 1 false (.t 29), none, 393472, 1, []⟩,
   ⟨(some 31), .bin .add (.t 30) (.k (.int .i64 1)), none, 393728, 2, []⟩,
   ⟨(some 32), .faddr 9 (.t 7), none, 393984, 3, []⟩,
   ⟨none, .store 1 (.t 32) (.t 31), none, 394240, 4, []⟩])
 (.seq (.reg [⟨(some 33), .load 10 true (.t 7), none, 458752, 0, []⟩,
   ⟨(some 34), .faddr 0 (.t 2), none, 459008, 1, []⟩,
   ⟨(some 35), .load 1 false (.t 34), none, 459264, 2, [(.t 2)]⟩,
   ⟨(some 36), .mv (.t 1), none, 459520, 3, []⟩,
   ⟨(some 37), .faddr 3 (.t 2), none, 459776, 4, []⟩,
   ⟨(some 38), .load 2 true (.t 37), none, 460032, 5, [(.t 2)]⟩,
   ⟨(some 39), .faddr 5 (.t 2), none, 460288, 6, []⟩,
   ⟨(some 40), .load 1 false (.t 39), none, 460544, 7, [(.t 2)]⟩,
   ⟨(some 41), .faddr 6 (.t 2), none, 460800, 8, []⟩,
   ⟨(some 42), .load 3 true (.t 41), none, 461056, 9, [(.t 2)]⟩,
   ⟨(some 43), .faddr 0 (.t 2), none, 461312, 10, []⟩,
   ⟨(some 44), .load 1 false (.t 43), none, 461568, 11, [(.t 2)]⟩,
   ⟨(some 45), .faddr 1 (.t 2), none, 461824, 12, []⟩,
   ⟨(some 46), .load 1 false (.t 45), none, 462080, 13, [(.t 2)]⟩,
   ⟨(some 47), .build [(.int .i64 0), (.int .i64 0)] [(0, 1, (.t 44)), (1, 1, (.t 46))], none, 462336, 14, []⟩,
   ⟨(some 48), .build [(.int .i64 0), (.int .i64 0), (.int .i64 0), (.int .i64 0), (.int .i64 0), (.int .i64 0), (.str ByteArray.empty), (.int .i64 0), (.int .i64 0), (.int .i64 0), (.int .i64 0), (.int .i64 0), (.int .i64 0), (.int .i64 0), (.int .i64 0), (.int .i64 0), (.int .i64 0), (.nil true 5), (.nil true 4), (.nil true 10), (.int .i64 0), (.int .i64 0), (.nil true 6), (.int .i64 0), (.int .i64 0), (.int .i64 0), (.int .i64 0), (.str ByteArray.empty), (.bool false), (.int .i64 0), (.int .i64 0), (.int .i64 0), (.int .i64 0), (.str ByteArray.empty), (.int .i64 0), (.int .i64 0), (.int .i64 0), (.int .i64 0), (.str ByteArray.empty), (.int .i64 0), (.int .i64 0), (.str ByteArray.empty), (.int .i64 0), (.int .i64 0), (.int .i64 0), (.str ByteArray.empty)] [(0, 1, (.k (.int .i64 13))), (1, 1, (.t 35)), (2, 1, (.t 36)), (3, 2, (.t 38)), (6, 1, (.t 40)), (39, 3, (.t 42)), (42, 2, (.t 47))], none, 462592, 15, []⟩,
   ⟨none, .store 10 (.t 4) (.t 33), none, 462848, 16, [(.t 2)]⟩,
   ⟨none, .store 46 (.t 5) (.t 48), none, 463104, 17, []⟩,
   ⟨(some 6), .mv (.k (.bool true)), none, 463360, 18, []⟩])
 (.ret))))))⟩
/-- loop.example/g00849/laws.toClient -/
def F6 : F := ⟨1, 28, [.cell 2 10 true],
 .seq (.reg [⟨(some 1), .box (.t 0), none, 0, 0, []⟩,
   ⟨(some 2), .alloc [(.int .i64 0), (.int .i64 0), (.bool false), (.int .i64 0), (.int .i64 0), (.str ByteArray.empty), (.int .i64 0), (.int .i64 0), (.str ByteArray.empty), (.int .i64 0)], none, 256, 1, []⟩])
 (.seq (.reg [⟨(some 3), .alloc [(.int .i64 0), (.int .i64 0), (.bool false), (.int .i64 0), (.int .i64 0), (.str ByteArray.empty), (.int .i64 0), (.int .i64 0), (.str ByteArray.empty), (.int .i64 0)], none, 65536, 0, []⟩])
 (.seq (.reg [⟨(some 4), .faddr 0 (.t 1), none, 131072, 0, []⟩,
   ⟨(some 5), .load 1 false (.t 4), none, 131328, 1, []⟩,
   ⟨(some 6), .faddr 0 (.t 3), none, 131584, 2, []⟩,
   ⟨none, .store 1 (.t 6) (.t 5), none, 131840, 3, []⟩])
 (.seq (.reg [⟨(some 7), .faddr 1 (.t 1), none, 196608, 0, []⟩,
   ⟨(some 8), .load 1 false (.t 7), none, 196864, 1, []⟩,
   ⟨(some 9), .faddr 1 (.t 3), none, 197120, 2, []⟩,
   ⟨none, .store 1 (.t 9) (.t 8), none, 197376, 3, []⟩])
 (.seq (.reg [⟨(some 10), .faddr 2 (.t 1), none, 262144, 0, []⟩,
   ⟨(some 11), .load 1 false (.t 10), none, 262400, 1, []⟩,
   ⟨(some 12), .faddr 2 (.t 3), none, 262656, 2, []⟩,
   ⟨none, .store 1 (.t 12) (.t 11), none, 262912, 3, []⟩])
 (.seq (.reg [⟨(some 13), .faddr 3 (.t 1), none, 327680, 0, []⟩,
   ⟨(some 14), .load 2 true (.t 13), none, 327936, 1, []⟩,
   ⟨(some 15), .call 15 [(.t 14)] true, none, 328192, 2, []⟩,
   ⟨(some 16), .faddr 3 (.t 3), none, 328448, 3, []⟩,
   ⟨none, .store 2 (.t 16) (.t 15), none, 328704, 4, []⟩])
 (.seq (.reg [⟨(some 17), .faddr 5 (.t 1), none, 393216, 0, []⟩,
   ⟨(some 18), .load 1 false (.t 17), none, 393472, 1, []⟩,
   ⟨(some 19), .faddr 5 (.t 3), none, 393728, 2, []⟩,
   ⟨none, .store 1 (.t 19) (.t 18), none, 393984, 3, []⟩])
 (.seq (.reg [⟨(some 20), .faddr 6 (.t 1), none, 458752, 0, []⟩,
   ⟨(some 21), .load 3 true (.t 20), none, 459008, 1, []⟩,
   ⟨(some 22), .call 16 [(.t 21)] true, none, 459264, 2, []⟩,
   ⟨(some 23), .faddr 6 (.t 3), none, 459520, 3, []⟩,
   ⟨none, .store 3 (.t 23) (.t 22), none, 459776, 4, []⟩])
 (.seq (.reg [⟨(some 24), .faddr 9 (.t 1), none, 524288, 0, []⟩,
   ⟨(some 25), .load 1 false (.t 24), none, 524544, 1, []⟩,
   ⟨(some 26), .faddr 9 (.t 3), none, 524800, 2, []⟩,
   ⟨none, .store 1 (.t 26) (.t 25), none, 525056, 3, []⟩])
 (.seq (.reg [⟨(some 27), .load 10 true (.t 3), none, 589824, 0, []⟩,
   ⟨none, .store 10 (.t 2) (.t 27), none, 590080, 1, []⟩])
 (.ret))))))))))⟩
/-- loop.example/g00849/impl.SendTo -/
def F7 : F := ⟨2, 46, [.cell 4 10 true, .cell 5 46 true, .t 6],
 .seq (.reg [⟨(some 2), .box (.t 0), none, 0, 0, []⟩,
   ⟨(some 4), .alloc [(.int .i64 0), (.int .i64 0), (.bool false), (.int .i64 0), (.int .i64 0), (.str ByteArray.empty), (.int .i64 0), (.int .i64 0), (.str ByteArray.empty), (.int .i64 0)], none, 256, 1, []⟩,
   ⟨(some 5), .alloc [(.int .i64 0), (.int .i64 0), (.int .i64 0), (.int .i64 0), (.int .i64 0), (.int .i64 0), (.str ByteArray.empty), (.int .i64 0), (.int .i64 0), (.int .i64 0), (.int .i64 0), (.int .i64 0), (.int .i64 0), (.int .i64 0), (.int .i64 0), (.int .i64 0), (.int .i64 0), (.nil true 5), (.nil true 4), (.nil true 10), (.int .i64 0), (.int .i64 0), (.nil true 6), (.int .i64 0), (.int .i64 0), (.int .i64 0), (.int .i64 0), (.str ByteArray.empty), (.bool false), (.int .i64 0), (.int .i64 0), (.int .i64 0), (.int .i64 0), (.str ByteArray.empty), (.int .i64 0), (.int .i64 0), (.int .i64 0), (.int .i64 0), (.str ByteArray.empty), (.int .i64 0), (.int .i64 0), (.str ByteArray.empty), (.int .i64 0), (.int .i64 0), (.int .i64 0), (.str ByteArray.empty)], none, 512, 2, []⟩,
   ⟨(some 6), .mv (.k (.bool false)), none, 768, 3, []⟩])
 (.seq (.block 0 (.seq (.reg [⟨(some 8), .load 10 true (.t 2), none, 65536, 0, []⟩,
   ⟨(some 9), .call 17 [(.t 8)] true, none, 65792, 1, []⟩,
   ⟨(some 10), .not (.t 9), none, 66048, 2, []⟩,
   ⟨(some 7), .mv (.t 10), none, 66304, 3, []⟩])
 (.cond (.t 7)
  (.seq (.reg [⟨(some 11), .build [(.int .i64 0), (.int .i64 0), (.bool false), (.int .i64 0), (.int .i64 0), (.str ByteArray.empty), (.int .i64 0), (.int .i64 0), (.str ByteArray.empty), (.int .i64 0)] [], none, 131072, 0, []⟩,
    ⟨(some 12), .build [(.int .i64 0), (.int .i64 0), (.int .i64 0), (.int .i64 0), (.int .i64 0), (.int .i64 0), (.str ByteArray.empty), (.int .i64 0), (.int .i64 0), (.int .i64 0), (.int .i64 0), (.int .i64 0), (.int .i64 0), (.int .i64 0), (.int .i64 0), (.int .i64 0), (.int .i64 0), (.nil true 5), (.nil true 4), (.nil true 10), (.int .i64 0), (.int .i64 0), (.nil true 6), (.int .i64 0), (.int .i64 0), (.int .i64 0), (.int .i64 0), (.str ByteArray.empty), (.bool false), (.int .i64 0), (.int .i64 0), (.int .i64 0), (.int .i64 0), (.str ByteArray.empty), (.int .i64 0), (.int .i64 0), (.int .i64 0), (.int .i64 0), (.str ByteArray.empty), (.int .i64 0), (.int .i64 0), (.str ByteArray.empty), (.int .i64 0), (.int .i64 0), (.int .i64 0), (.str ByteArray.empty)] [], none, 131328, 1, []⟩,
    ⟨none, .store 10 (.t 4) (.t 11), none, 131584, 2, []⟩,
    ⟨none, .store 46 (.t 5) (.t 12), none, 131840, 3, []⟩,
    ⟨(some 6), .mv (.k (.bool false)), none, 132096, 4, []⟩])
  (.ret))
  (.seq (.reg [⟨(some 14), .faddr 2 (.t 2), none, 196608, 0, []⟩,
    ⟨(some 15), .load 1 false (.t 14), none, 196864, 1, []⟩,
    ⟨(some 16), .not (.t 15), none, 197120, 2, []⟩,
    ⟨(some 17), .mv (.t 16), none, 197376, 3, []⟩,
    ⟨(some 18), .mv (.t 1), (some (some 17, false)), 197632, 4, []⟩,
    ⟨(some 19), .call 18 [(.t 18)] true, (some (some 17, false)), 197888, 5, []⟩,
    ⟨(some 20), .not (.t 19), (some (some 17, false)), 198144, 6, []⟩,
    ⟨(some 21), .pick (.t 17) (.k (.bool true)) (.t 20), none, 198400, 7, []⟩,
    ⟨(some 22), .mv (.t 21), none, 198656, 8, []⟩,
    ⟨(some 23), .faddr 9 (.t 2), (some (some 22, false)), 198912, 9, []⟩,
    ⟨(some 24), .load 1 false (.t 23), (some (some 22, false)), 199168, 10, []⟩,
    ⟨(some 25), .bin .eql (.t 24) (.k (.int .i64 1000)), (some (some 22, false)), 199424, 11, []⟩,
    ⟨(some 26), .pick (.t 22) (.k (.bool true)) (.t 25), none, 199680, 12, []⟩,
    ⟨(some 13), .mv (.t 26), none, 199936, 13, []⟩])
  (.cond (.t 13)
   (.seq (.reg [⟨(some 27), .load 10 true (.t 2), none, 262144, 0, []⟩,
     ⟨(some 28), .build [(.int .i64 0), (.int .i64 0), (.int .i64 0), (.int .i64 0), (.int .i64 0), (.int .i64 0), (.str ByteArray.empty), (.int .i64 0), (.int .i64 0), (.int .i64 0), (.int .i64 0), (.int .i64 0), (.int .i64 0), (.int .i64 0), (.int .i64 0), (.int .i64 0), (.int .i64 0), (.nil true 5), (.nil true 4), (.nil true 10), (.int .i64 0), (.int .i64 0), (.nil true 6), (.int .i64 0), (.int .i64 0), (.int .i64 0), (.int .i64 0), (.str ByteArray.empty), (.bool false), (.int .i64 0), (.int .i64 0), (.int .i64 0), (.int .i64 0), (.str ByteArray.empty), (.int .i64 0), (.int .i64 0), (.int .i64 0), (.int .i64 0), (.str ByteArray.empty), (.int .i64 0), (.int .i64 0), (.str ByteArray.empty), (.int .i64 0), (.int .i64 0), (.int .i64 0), (.str ByteArray.empty)] [], none, 262400, 1, []⟩,
     ⟨none, .store 10 (.t 4) (.t 27), none, 262656, 2, []⟩,
     ⟨none, .store 46 (.t 5) (.t 28), none, 262912, 3, []⟩,
     ⟨(some 6), .mv (.k (.bool false)), none, 263168, 4, []⟩])
   (.ret))
   (.skip))))))
 (.seq (.reg [⟨(some 29), .faddr 9 (.t 2), none, 327680, 0, []⟩,
   ⟨(some 30), .load 1 false (.t 29), none, 327936, 1, []⟩,
   ⟨(some 31), .bin .add (.t 30) (.k (.int .i64 1)), none, 328192, 2, []⟩,
   ⟨(some 32), .faddr 9 (.t 2), none, 328448, 3, []⟩,
   ⟨none, .store 1 (.t 32) (.t 31), none, 328704, 4, []⟩])
 (.seq (.reg [⟨(some 33), .load 10 true (.t 2), none, 393216, 0, []⟩,
   ⟨(some 34), .faddr 0 (.t 2), none, 393472, 1, []⟩,
   ⟨(some 35), .load 1 false (.t 34), none, 393728, 2, [(.t 2)]⟩,
   ⟨(some 36), .mv (.t 1), none, 393984, 3, []⟩,
   ⟨(some 37), .faddr 3 (.t 2), none, 394240, 4, []⟩,
   ⟨(some 38), .load 2 true (.t 37), none, 394496, 5, [(.t 2)]⟩,
   ⟨(some 39), .faddr 5 (.t 2), none, 394752, 6, []⟩,
   ⟨(some 40), .load 1 false (.t 39), none, 395008, 7, [(.t 2)]⟩,
   ⟨(some 41), .faddr 6 (.t 2), none, 395264, 8, []⟩,
   ⟨(some 42), .load 3 true (.t 41), none, 395520, 9, [(.t 2)]⟩,
   ⟨(some 43), .load 10 true (.t 2), none, 395776, 10, []⟩,
   ⟨(some 44), .call 19 [(.t 43)] true, none, 396032, 11, []⟩,
   ⟨(some 45), .build [(.int .i64 0), (.int .i64 0), (.int .i64 0), (.int .i64 0), (.int .i64 0), (.int .i64 0), (.str ByteArray.empty), (.int .i64 0), (.int .i64 0), (.int .i64 0), (.int .i64 0), (.int .i64 0), (.int .i64 0), (.int .i64 0), (.int .i64 0), (.int .i64 0), (.int .i64 0), (.nil true 5), (.nil true 4), (.nil true 10), (.int .i64 0), (.int .i64 0), (.nil true 6), (.int .i64 0), (.int .i64 0), (.int .i64 0), (.int .i64 0), (.str ByteArray.empty), (.bool false), (.int .i64 0), (.int .i64 0), (.int .i64 0), (.int .i64 0), (.str ByteArray.empty), (.int .i64 0), (.int .i64 0), (.int .i64 0), (.int .i64 0), (.str ByteArray.empty), (.int .i64 0), (.int .i64 0), (.str ByteArray.empty), (.int .i64 0), (.int .i64 0), (.int .i64 0), (.str ByteArray.empty)] [(0, 1, (.k (.int .i64 13))), (1, 1, (.t 35)), (2, 1, (.t 36)), (3, 2, (.t 38)), (6, 1, (.t 40)), (39, 3, (.t 42)), (42, 2, (.t 44))], none, 396288, 12, []⟩,
   ⟨none, .store 10 (.t 4) (.t 33), none, 396544, 13, [(.t 2)]⟩,
   ⟨none, .store 46 (.t 5) (.t 45), none, 396800, 14, []⟩,
   ⟨(some 6), .mv (.k (.bool true)), none, 397056, 15, []⟩])
 (.ret))))⟩
/-- loop.example/g00849/laws.eqClient -/
def F8 : F := ⟨2, 42, [.t 4],
 .seq (.reg [⟨(some 2), .box (.t 0), none, 0, 0, []⟩,
   ⟨(some 3), .box (.t 1), none, 256, 1, []⟩,
   ⟨(some 4), .mv (.k (.bool false)), none, 512, 2, []⟩])
 (.seq (.seq (.reg [⟨(some 5), .faddr 0 (.t 2), none, 65536, 0, []⟩,
   ⟨(some 6), .load 1 false (.t 5), none, 65792, 1, []⟩,
   ⟨(some 7), .faddr 0 (.t 3), none, 66048, 2, []⟩,
   ⟨(some 8), .load 1 false (.t 7), none, 66304, 3, []⟩,
   ⟨(some 9), .bin .neq (.t 6) (.t 8), none, 66560, 4, []⟩])
 (.cond (.t 9)
  (.seq (.reg [⟨(some 4), .mv (.k (.bool false)), none, 131072, 0, []⟩])
  (.ret))
  (.skip)))
 (.seq (.seq (.reg [⟨(some 10), .faddr 1 (.t 2), none, 196608, 0, []⟩,
   ⟨(some 11), .load 1 false (.t 10), none, 196864, 1, []⟩,
   ⟨(some 12), .faddr 1 (.t 3), none, 197120, 2, []⟩,
   ⟨(some 13), .load 1 false (.t 12), none, 197376, 3, []⟩,
   ⟨(some 14), .bin .neq (.t 11) (.t 13), none, 197632, 4, []⟩])
 (.cond (.t 14)
  (.seq (.reg [⟨(some 4), .mv (.k (.bool false)), none, 262144, 0, []⟩])
  (.ret))
  (.skip)))
 (.seq (.seq (.reg [⟨(some 15), .faddr 2 (.t 2), none, 327680, 0, []⟩,
   ⟨(some 16), .load 1 false (.t 15), none, 327936, 1, []⟩,
   ⟨(some 17), .faddr 2 (.t 3), none, 328192, 2, []⟩,
   ⟨(some 18), .load 1 false (.t 17), none, 328448, 3, []⟩,
   ⟨(some 19), .eqv true false [.b] (.t 16) (.t 18), none, 328704, 4, []⟩])
 (.cond (.t 19)
  (.seq (.reg [⟨(some 4), .mv (.k (.bool false)), none, 393216, 0, []⟩])
  (.ret))
  (.skip)))
 (.seq (.seq (.reg [⟨(some 20), .faddr 3 (.t 2), none, 458752, 0, []⟩,
   ⟨(some 21), .load 2 true (.t 20), none, 459008, 1, []⟩,
   ⟨(some 22), .faddr 3 (.t 3), none, 459264, 2, []⟩,
   ⟨(some 23), .load 2 true (.t 22), none, 459520, 3, []⟩,
   ⟨(some 24), .call 20 [(.t 21), (.t 23)] true, none, 459776, 4, []⟩,
   ⟨(some 25), .not (.t 24), none, 460032, 5, []⟩])
 (.cond (.t 25)
  (.seq (.reg [⟨(some 4), .mv (.k (.bool false)), none, 524288, 0, []⟩])
  (.ret))
  (.skip)))
 (.seq (.seq (.reg [⟨(some 26), .faddr 5 (.t 2), none, 589824, 0, []⟩,
   ⟨(some 27), .load 1 false (.t 26), none, 590080, 1, []⟩,
   ⟨(some 28), .faddr 5 (.t 3), none, 590336, 2, []⟩,
   ⟨(some 29), .load 1 false (.t 28), none, 590592, 3, []⟩,
   ⟨(some 30), .bin .neq (.t 27) (.t 29), none, 590848, 4, []⟩])
 (.cond (.t 30)
  (.seq (.reg [⟨(some 4), .mv (.k (.bool false)), none, 655360, 0, []⟩])
  (.ret))
  (.skip)))
 (.seq (.seq (.reg [⟨(some 31), .faddr 6 (.t 2), none, 720896, 0, []⟩,
   ⟨(some 32), .load 3 true (.t 31), none, 721152, 1, []⟩,
   ⟨(some 33), .faddr 6 (.t 3), none, 721408, 2, []⟩,
   ⟨(some 34), .load 3 true (.t 33), none, 721664, 3, []⟩,
   ⟨(some 35), .call 21 [(.t 32), (.t 34)] true, none, 721920, 4, []⟩,
   ⟨(some 36), .not (.t 35), none, 722176, 5, []⟩])
 (.cond (.t 36)
  (.seq (.reg [⟨(some 4), .mv (.k (.bool false)), none, 786432, 0, []⟩])
  (.ret))
  (.skip)))
 (.seq (.seq (.reg [⟨(some 37), .faddr 9 (.t 2), none, 851968, 0, []⟩,
   ⟨(some 38), .load 1 false (.t 37), none, 852224, 1, []⟩,
   ⟨(some 39), .faddr 9 (.t 3), none, 852480, 2, []⟩,
   ⟨(some 40), .load 1 false (.t 39), none, 852736, 3, []⟩,
   ⟨(some 41), .bin .neq (.t 38) (.t 40), none, 852992, 4, []⟩])
 (.cond (.t 41)
  (.seq (.reg [⟨(some 4), .mv (.k (.bool false)), none, 917504, 0, []⟩])
  (.ret))
  (.skip)))
 (.seq (.reg [⟨(some 4), .mv (.k (.bool true)), none, 983040, 0, []⟩])
 (.ret)))))))))⟩
/-- loop.example/g00849/laws.eqMsg -/
def F9 : F := ⟨2, 88, [.t 4],
 .seq (.reg [⟨(some 2), .box (.t 0), none, 0, 0, []⟩,
   ⟨(some 3), .box (.t 1), none, 256, 1, []⟩,
   ⟨(some 4), .mv (.k (.bool false)), none, 512, 2, []⟩])
 (.seq (.seq (.reg [⟨(some 5), .faddr 0 (.t 2), none, 65536, 0, []⟩,
   ⟨(some 6), .load 1 false (.t 5), none, 65792, 1, []⟩,
   ⟨(some 7), .faddr 0 (.t 3), none, 66048, 2, []⟩,
   ⟨(some 8), .load 1 false (.t 7), none, 66304, 3, []⟩,
   ⟨(some 9), .bin .neq (.t 6) (.t 8), none, 66560, 4, []⟩])
 (.cond (.t 9)
  (.seq (.reg [⟨(some 4), .mv (.k (.bool false)), none, 131072, 0, []⟩])
  (.ret))
  (.skip)))
 (.seq (.seq (.reg [⟨(some 10), .faddr 1 (.t 2), none, 196608, 0, []⟩,
   ⟨(some 11), .load 1 false (.t 10), none, 196864, 1, []⟩,
   ⟨(some 12), .faddr 1 (.t 3), none, 197120, 2, []⟩,
   ⟨(some 13), .load 1 false (.t 12), none, 197376, 3, []⟩,
   ⟨(some 14), .bin .neq (.t 11) (.t 13), none, 197632, 4, []⟩])
 (.cond (.t 14)
  (.seq (.reg [⟨(some 4), .mv (.k (.bool false)), none, 262144, 0, []⟩])
  (.ret))
  (.skip)))
 (.seq (.seq (.reg [⟨(some 15), .faddr 2 (.t 2), none, 327680, 0, []⟩,
   ⟨(some 16), .load 1 false (.t 15), none, 327936, 1, []⟩,
   ⟨(some 17), .faddr 2 (.t 3), none, 328192, 2, []⟩,
   ⟨(some 18), .load 1 false (.t 17), none, 328448, 3, []⟩,
   ⟨(some 19), .bin .neq (.t 16) (.t 18), none, 328704, 4, []⟩])
 (.cond (.t 19)
  (.seq (.reg [⟨(some 4), .mv (.k (.bool false)), none, 393216, 0, []⟩])
  (.ret))
  (.skip)))
 (.seq (.seq (.reg [⟨(some 20), .faddr 3 (.t 2), none, 458752, 0, []⟩,
   ⟨(some 21), .load 2 true (.t 20), none, 459008, 1, []⟩,
   ⟨(some 22), .faddr 3 (.t 3), none, 459264, 2, []⟩,
   ⟨(some 23), .load 2 true (.t 22), none, 459520, 3, []⟩,
   ⟨(some 24), .call 20 [(.t 21), (.t 23)] true, none, 459776, 4, []⟩,
   ⟨(some 25), .not (.t 24), none, 460032, 5, []⟩])
 (.cond (.t 25)
  (.seq (.reg [⟨(some 4), .mv (.k (.bool false)), none, 524288, 0, []⟩])
  (.ret))
  (.skip)))
 (.seq (.seq (.reg [⟨(some 26), .faddr 5 (.t 2), none, 589824, 0, []⟩,
   ⟨(some 27), .load 1 false (.t 26), none, 590080, 1, []⟩,
   ⟨(some 28), .faddr 5 (.t 3), none, 590336, 2, []⟩,
   ⟨(some 29), .load 1 false (.t 28), none, 590592, 3, []⟩,
   ⟨(some 30), .bin .neq (.t 27) (.t 29), none, 590848, 4, []⟩])
 (.cond (.t 30)
  (.seq (.reg [⟨(some 4), .mv (.k (.bool false)), none, 655360, 0, []⟩])
  (.ret))
  (.skip)))
 (.seq (.seq (.reg [⟨(some 31), .faddr 6 (.t 2), none, 720896, 0, []⟩,
   ⟨(some 32), .load 1 false (.t 31), none, 721152, 1, []⟩,
   ⟨(some 33), .faddr 6 (.t 3), none, 721408, 2, []⟩,
   ⟨(some 34), .load 1 false (.t 33), none, 721664, 3, []⟩,
   ⟨(some 35), .bin .neq (.t 32) (.t 34), none, 721920, 4, []⟩])
 (.cond (.t 35)
  (.seq (.reg [⟨(some 4), .mv (.k (.bool false)), none, 786432, 0, []⟩])
  (.ret))
  (.skip)))
 (.seq (.seq (.reg [⟨(some 36), .faddr 7 (.t 2), none, 851968, 0, []⟩,
   ⟨(some 37), .load 2 true (.t 36), none, 852224, 1, []⟩,
   ⟨(some 38), .faddr 7 (.t 3), none, 852480, 2, []⟩,
   ⟨(some 39), .load 2 true (.t 38), none, 852736, 3, []⟩,
   ⟨(some 40), .call 22 [(.t 37), (.t 39)] true, none, 852992, 4, []⟩,
   ⟨(some 41), .not (.t 40), none, 853248, 5, []⟩])
 (.cond (.t 41)
  (.seq (.reg [⟨(some 4), .mv (.k (.bool false)), none, 917504, 0, []⟩])
  (.ret))
  (.skip)))
 (.seq (.seq (.reg [⟨(some 42), .faddr 9 (.t 2), none, 983040, 0, []⟩,
   ⟨(some 43), .load 2 true (.t 42), none, 983296, 1, []⟩,
   ⟨(some 44), .faddr 9 (.t 3), none, 983552, 2, []⟩,
   ⟨(some 45), .load 2 true (.t 44), none, 983808, 3, []⟩,
   ⟨(some 46), .call 22 [(.t 43), (.t 45)] true, none, 984064, 4, []⟩,
   ⟨(some 47), .not (.t 46), none, 984320, 5, []⟩])
 (.cond (.t 47)
  (.seq (.reg [⟨(some 4), .mv (.k (.bool false)), none, 1048576, 0, []⟩])
  (.ret))
  (.skip)))
 (.seq (.seq (.reg [⟨(some 48), .faddr 11 (.t 2), none, 1114112, 0, []⟩,
   ⟨(some 49), .load 12 true (.t 48), none, 1114368, 1, []⟩,
   ⟨(some 50), .faddr 11 (.t 3), none, 1114624, 2, []⟩,
   ⟨(some 51), .load 12 true (.t 50), none, 1114880, 3, []⟩,
   ⟨(some 52), .call 23 [(.t 49), (.t 51)] true, none, 1115136, 4, []⟩,
   ⟨(some 53), .not (.t 52), none, 1115392, 5, []⟩])
 (.cond (.t 53)
  (.seq (.reg [⟨(some 4), .mv (.k (.bool false)), none, 1179648, 0, []⟩])
  (.ret))
  (.skip)))
 (.seq (.seq (.reg [⟨(some 54), .faddr 23 (.t 2), none, 1245184, 0, []⟩,
   ⟨(some 55), .load 10 true (.t 54), none, 1245440, 1, []⟩,
   ⟨(some 56), .faddr 23 (.t 3), none, 1245696, 2, []⟩,
   ⟨(some 57), .load 10 true (.t 56), none, 1245952, 3, []⟩,
   ⟨(some 58), .call 24 [(.t 55), (.t 57)] true, none, 1246208, 4, []⟩,
   ⟨(some 59), .not (.t 58), none, 1246464, 5, []⟩])
 (.cond (.t 59)
  (.seq (.reg [⟨(some 4), .mv (.k (.bool false)), none, 1310720, 0, []⟩])
  (.ret))
  (.skip)))
 (.seq (.seq (.reg [⟨(some 60), .faddr 33 (.t 2), none, 1376256, 0, []⟩,
   ⟨(some 61), .load 6 true (.t 60), none, 1376512, 1, []⟩,
   ⟨(some 62), .faddr 33 (.t 3), none, 1376768, 2, []⟩,
   ⟨(some 63), .load 6 true (.t 62), none, 1377024, 3, []⟩,
   ⟨(some 64), .call 25 [(.t 61), (.t 63)] true, none, 1377280, 4, []⟩,
   ⟨(some 65), .not (.t 64), none, 1377536, 5, []⟩])
 (.cond (.t 65)
  (.seq (.reg [⟨(some 4), .mv (.k (.bool false)), none, 1441792, 0, []⟩])
  (.ret))
  (.skip)))
 (.seq (.seq (.reg [⟨(some 66), .faddr 39 (.t 2), none, 1507328, 0, []⟩,
   ⟨(some 67), .load 3 true (.t 66), none, 1507584, 1, []⟩,
   ⟨(some 68), .faddr 39 (.t 3), none, 1507840, 2, []⟩,
   ⟨(some 69), .load 3 true (.t 68), none, 1508096, 3, []⟩,
   ⟨(some 70), .call 21 [(.t 67), (.t 69)] true, none, 1508352, 4, []⟩,
   ⟨(some 71), .not (.t 70), none, 1508608, 5, []⟩])
 (.cond (.t 71)
  (.seq (.reg [⟨(some 4), .mv (.k (.bool false)), none, 1572864, 0, []⟩])
  (.ret))
  (.skip)))
 (.seq (.seq (.reg [⟨(some 72), .faddr 42 (.t 2), none, 1638400, 0, []⟩,
   ⟨(some 73), .load 2 true (.t 72), none, 1638656, 1, []⟩,
   ⟨(some 74), .faddr 42 (.t 3), none, 1638912, 2, []⟩,
   ⟨(some 75), .load 2 true (.t 74), none, 1639168, 3, []⟩,
   ⟨(some 76), .call 26 [(.t 73), (.t 75)] true, none, 1639424, 4, []⟩,
   ⟨(some 77), .not (.t 76), none, 1639680, 5, []⟩])
 (.cond (.t 77)
  (.seq (.reg [⟨(some 4), .mv (.k (.bool false)), none, 1703936, 0, []⟩])
  (.ret))
  (.skip)))
 (.seq (.seq (.reg [⟨(some 78), .faddr 44 (.t 2), none, 1769472, 0, []⟩,
   ⟨(some 79), .load 1 false (.t 78), none, 1769728, 1, []⟩,
   ⟨(some 80), .faddr 44 (.t 3), none, 1769984, 2, []⟩,
   ⟨(some 81), .load 1 false (.t 80), none, 1770240, 3, []⟩,
   ⟨(some 82), .bin .neq (.t 79) (.t 81), none, 1770496, 4, []⟩])
 (.cond (.t 82)
  (.seq (.reg [⟨(some 4), .mv (.k (.bool false)), none, 1835008, 0, []⟩])
  (.ret))
  (.skip)))
 (.seq (.seq (.reg [⟨(some 83), .faddr 45 (.t 2), none, 1900544, 0, []⟩,
   ⟨(some 84), .load 1 false (.t 83), none, 1900800, 1, []⟩,
   ⟨(some 85), .faddr 45 (.t 3), none, 1901056, 2, []⟩,
   ⟨(some 86), .load 1 false (.t 85), none, 1901312, 3, []⟩,
   ⟨(some 87), .bin .neq (.t 84) (.t 86), none, 1901568, 4, []⟩])
 (.cond (.t 87)
  (.seq (.reg [⟨(some 4), .mv (.k (.bool false)), none, 1966080, 0, []⟩])
  (.ret))
  (.skip)))
 (.seq (.reg [⟨(some 4), .mv (.k (.bool true)), none, 2031616, 0, []⟩])
 (.ret)))))))))))))))))⟩
/-- loop.example/g00849/laws.markMsg -/
def F10 : F := ⟨2, 10, [.t 4],
 .seq (.reg [⟨(some 2), .box (.t 0), none, 0, 0, []⟩,
   ⟨(some 4), .mv (.k (.int .i64 0)), none, 256, 1, []⟩])
 (.seq (.reg [⟨(some 5), .faddr 11 (.t 2), none, 65536, 0, []⟩,
   ⟨(some 6), .load 12 true (.t 5), none, 65792, 1, []⟩,
   ⟨(some 7), .mv (.t 1), none, 66048, 2, []⟩,
   ⟨(some 8), .call 27 [(.t 6), (.t 7)] true, none, 66304, 3, []⟩,
   ⟨(some 1), .mv (.t 8), none, 66560, 4, []⟩])
 (.seq (.reg [⟨(some 9), .mv (.t 1), none, 131072, 0, []⟩,
   ⟨(some 4), .mv (.t 9), none, 131328, 1, []⟩])
 (.ret)))⟩
/-- loop.example/g00849/laws.heldMsg -/
def F11 : F := ⟨2, 12, [.t 4],
 .seq (.reg [⟨(some 2), .box (.t 0), none, 0, 0, []⟩,
   ⟨(some 4), .mv (.k (.int .i64 0)), none, 256, 1, []⟩])
 (.seq (.reg [⟨(some 5), .faddr 11 (.t 2), none, 65536, 0, []⟩,
   ⟨(some 6), .load 12 true (.t 5), none, 65792, 1, []⟩,
   ⟨(some 7), .mv (.t 1), none, 66048, 2, []⟩,
   ⟨(some 8), .call 28 [(.t 6), (.t 7)] true, none, 66304, 3, []⟩,
   ⟨(some 1), .mv (.t 8), none, 66560, 4, []⟩])
 (.seq (.seq (.reg [⟨(some 9), .mv (.t 1), none, 131072, 0, []⟩,
   ⟨(some 10), .bin .lss (.t 9) (.k (.int .i64 0)), none, 131328, 1, []⟩])
 (.cond (.t 10)
  (.seq (.reg [⟨(some 4), .mv (.k (.int .i64 (-1))), none, 196608, 0, []⟩])
  (.ret))
  (.skip)))
 (.seq (.reg [⟨(some 11), .mv (.t 1), none, 262144, 0, []⟩,
   ⟨(some 4), .mv (.t 11), none, 262400, 1, []⟩])
 (.ret))))⟩
/-- loop.example/g00849/laws.szOp -/
def F12 : F := ⟨2, 13, [.t 4],
 .seq (.reg [⟨(some 2), .box (.t 0), none, 0, 0, []⟩,
   ⟨(some 4), .mv (.k (.int .i64 0)), none, 256, 1, []⟩])
 (.seq (.reg [⟨(some 5), .mv (.t 1), none, 65536, 0, []⟩,
   ⟨(some 6), .faddr 2 (.t 2), none, 65792, 1, []⟩,
   ⟨(some 7), .load 1 false (.t 6), none, 66048, 2, []⟩,
   ⟨(some 8), .len true (.t 7), none, 66304, 3, []⟩,
   ⟨(some 9), .bin .sub (.t 5) (.t 8), none, 66560, 4, []⟩,
   ⟨(some 1), .mv (.t 9), none, 66816, 5, []⟩])
 (.seq (.seq (.reg [⟨(some 10), .mv (.t 1), none, 131072, 0, []⟩,
   ⟨(some 11), .bin .lss (.t 10) (.k (.int .i64 0)), none, 131328, 1, []⟩])
 (.cond (.t 11)
  (.seq (.reg [⟨(some 4), .mv (.k (.int .i64 (-1))), none, 196608, 0, []⟩])
  (.ret))
  (.skip)))
 (.seq (.reg [⟨(some 12), .mv (.t 1), none, 262144, 0, []⟩,
   ⟨(some 4), .mv (.t 12), none, 262400, 1, []⟩])
 (.ret))))⟩
/-- loop.example/g00849/spec.CallerOk -/
def F13 : F := ⟨1, 61, [.t 2],
 .seq (.reg [⟨(some 1), .box (.t 0), none, 0, 0, []⟩,
   ⟨(some 2), .mv (.k (.bool false)), none, 256, 1, []⟩])
 (.seq (.seq (.reg [⟨(some 3), .faddr 0 (.t 1), none, 65536, 0, []⟩,
   ⟨(some 4), .load 1 false (.t 3), none, 65792, 1, []⟩,
   ⟨(some 5), .call 29 [(.t 4)] true, none, 66048, 2, []⟩,
   ⟨(some 6), .not (.t 5), none, 66304, 3, []⟩,
   ⟨(some 7), .mv (.t 6), none, 66560, 4, []⟩,
   ⟨(some 8), .faddr 1 (.t 1), (some (some 7, false)), 66816, 5, []⟩,
   ⟨(some 9), .load 1 false (.t 8), (some (some 7, false)), 67072, 6, []⟩,
   ⟨(some 10), .call 30 [(.t 9), (.k (.int .i64 0)), (.k (.int .i64 1000))] true, (some (some 7, false)), 67328, 7, []⟩,
   ⟨(some 11), .not (.t 10), (some (some 7, false)), 67584, 8, []⟩,
   ⟨(some 12), .pick (.t 7) (.k (.bool true)) (.t 11), none, 67840, 9, []⟩,
   ⟨(some 13), .mv (.t 12), none, 68096, 10, []⟩,
   ⟨(some 14), .faddr 9 (.t 1), (some (some 13, false)), 68352, 11, []⟩,
   ⟨(some 15), .load 1 false (.t 14), (some (some 13, false)), 68608, 12, []⟩,
   ⟨(some 16), .call 30 [(.t 15), (.k (.int .i64 0)), (.k (.int .i64 1000))] true, (some (some 13, false)), 68864, 13, []⟩,
   ⟨(some 17), .not (.t 16), (some (some 13, false)), 69120, 14, []⟩,
   ⟨(some 18), .pick (.t 13) (.k (.bool true)) (.t 17), none, 69376, 15, []⟩])
 (.cond (.t 18)
  (.seq (.reg [⟨(some 2), .mv (.k (.bool false)), none, 131072, 0, []⟩])
  (.ret))
  (.skip)))
 (.seq (.seq (.reg [⟨(some 19), .faddr 2 (.t 1), none, 196608, 0, []⟩,
   ⟨(some 20), .load 1 false (.t 19), none, 196864, 1, []⟩,
   ⟨(some 21), .not (.t 20), none, 197120, 2, []⟩])
 (.cond (.t 21)
  (.seq (.reg [⟨(some 22), .faddr 3 (.t 1), none, 262144, 0, []⟩,
    ⟨(some 23), .load 2 true (.t 22), none, 262400, 1, []⟩,
    ⟨(some 24), .build [(.int .i64 0), (.int .i64 0)] [], none, 262656, 2, []⟩,
    ⟨(some 25), .eqv false true [.i, .i] (.t 23) (.t 24), none, 262912, 3, []⟩,
    ⟨(some 26), .mv (.t 25), none, 263168, 4, []⟩,
    ⟨(some 27), .faddr 5 (.t 1), (some (some 26, true)), 263424, 5, []⟩,
    ⟨(some 28), .load 1 false (.t 27), (some (some 26, true)), 263680, 6, []⟩,
    ⟨(some 29), .bin .eql (.t 28) (.k (.str ByteArray.empty)), (some (some 26, true)), 263936, 7, []⟩,
    ⟨(some 30), .pick (.t 26) (.t 29) (.k (.bool false)), none, 264192, 8, []⟩,
    ⟨(some 31), .mv (.t 30), none, 264448, 9, []⟩,
    ⟨(some 32), .faddr 6 (.t 1), (some (some 31, true)), 264704, 10, []⟩,
    ⟨(some 33), .load 3 true (.t 32), (some (some 31, true)), 264960, 11, []⟩,
    ⟨(some 34), .build [(.int .i64 0), (.int .i64 0), (.str ByteArray.empty)] [], (some (some 31, true)), 265216, 12, []⟩,
    ⟨(some 35), .eqv false true [.i, .i, .s] (.t 33) (.t 34), (some (some 31, true)), 265472, 13, []⟩,
    ⟨(some 36), .pick (.t 31) (.t 35) (.k (.bool false)), none, 265728, 14, []⟩,
    ⟨(some 37), .mv (.t 36), none, 265984, 15, []⟩,
    ⟨(some 38), .faddr 9 (.t 1), (some (some 37, true)), 266240, 16, []⟩,
    ⟨(some 39), .load 1 false (.t 38), (some (some 37, true)), 266496, 17, []⟩,
    ⟨(some 40), .bin .eql (.t 39) (.k (.int .i64 0)), (some (some 37, true)), 266752, 18, []⟩,
    ⟨(some 41), .pick (.t 37) (.t 40) (.k (.bool false)), none, 267008, 19, []⟩,
    ⟨(some 2), .mv (.t 41), none, 267264, 20, []⟩])
  (.ret))
  (.skip)))
 (.seq (.reg [⟨(some 42), .faddr 1 (.t 1), none, 327680, 0, []⟩,
   ⟨(some 43), .load 1 false (.t 42), none, 327936, 1, []⟩,
   ⟨(some 44), .bin .geq (.t 43) (.k (.int .i64 1)), none, 328192, 2, []⟩,
   ⟨(some 45), .mv (.t 44), none, 328448, 3, []⟩,
   ⟨(some 46), .faddr 3 (.t 1), (some (some 45, true)), 328704, 4, []⟩,
   ⟨(some 47), .load 2 true (.t 46), (some (some 45, true)), 328960, 5, []⟩,
   ⟨(some 48), .call 31 [(.t 47)] true, (some (some 45, true)), 329216, 6, []⟩,
   ⟨(some 49), .pick (.t 45) (.t 48) (.k (.bool false)), none, 329472, 7, []⟩,
   ⟨(some 50), .mv (.t 49), none, 329728, 8, []⟩,
   ⟨(some 51), .faddr 5 (.t 1), (some (some 50, true)), 329984, 9, []⟩,
   ⟨(some 52), .load 1 false (.t 51), (some (some 50, true)), 330240, 10, []⟩,
   ⟨(some 53), .call 32 [(.t 52)] true, (some (some 50, true)), 330496, 11, []⟩,
   ⟨(some 54), .pick (.t 50) (.t 53) (.k (.bool false)), none, 330752, 12, []⟩,
   ⟨(some 55), .mv (.t 54), none, 331008, 13, []⟩,
   ⟨(some 56), .call 34 [] true, (some (some 55, true)), 331264, 14, []⟩,
   ⟨(some 57), .faddr 6 (.t 1), (some (some 55, true)), 331520, 15, []⟩,
   ⟨(some 58), .load 3 true (.t 57), (some (some 55, true)), 331776, 16, []⟩,
   ⟨(some 59), .call 33 [(.t 56), (.t 58)] true, (some (some 55, true)), 332032, 17, []⟩,
   ⟨(some 60), .pick (.t 55) (.t 59) (.k (.bool false)), none, 332288, 18, []⟩,
   ⟨(some 2), .mv (.t 60), none, 332544, 19, []⟩])
 (.ret))))⟩
/-- loop.example/g00849/spec.NodeOk -/
def F14 : F := ⟨1, 5, [.t 2],
 .seq (.reg [⟨(some 2), .mv (.k (.bool false)), none, 0, 0, []⟩])
 (.seq (.reg [⟨(some 3), .mv (.t 0), none, 65536, 0, []⟩,
   ⟨(some 4), .call 30 [(.t 3), (.k (.int .i64 0)), (.k (.int .i64 15))] true, none, 65792, 1, []⟩,
   ⟨(some 2), .mv (.t 4), none, 66048, 2, []⟩])
 (.ret))⟩
/-- loop.example/g00849/laws.toPg -/
def F15 : F := ⟨1, 11, [.cell 2 2 true],
 .seq (.reg [⟨(some 1), .box (.t 0), none, 0, 0, []⟩,
   ⟨(some 2), .alloc [(.int .i64 0), (.int .i64 0)], none, 256, 1, []⟩])
 (.seq (.reg [⟨(some 3), .alloc [(.int .i64 0), (.int .i64 0)], none, 65536, 0, []⟩])
 (.seq (.reg [⟨(some 4), .faddr 0 (.t 1), none, 131072, 0, []⟩,
   ⟨(some 5), .load 1 false (.t 4), none, 131328, 1, []⟩,
   ⟨(some 6), .faddr 0 (.t 3), none, 131584, 2, []⟩,
   ⟨none, .store 1 (.t 6) (.t 5), none, 131840, 3, []⟩])
 (.seq (.reg [⟨(some 7), .faddr 1 (.t 1), none, 196608, 0, []⟩,
   ⟨(some 8), .load 1 false (.t 7), none, 196864, 1, []⟩,
   ⟨(some 9), .faddr 1 (.t 3), none, 197120, 2, []⟩,
   ⟨none, .store 1 (.t 9) (.t 8), none, 197376, 3, []⟩])
 (.seq (.reg [⟨(some 10), .load 2 true (.t 3), none, 262144, 0, []⟩,
   ⟨none, .store 2 (.t 2) (.t 10), none, 262400, 1, []⟩])
 (.ret)))))⟩
/-- loop.example/g00849/laws.toOp -/
def F16 : F := ⟨1, 14, [.cell 2 3 true],
 .seq (.reg [⟨(some 1), .box (.t 0), none, 0, 0, []⟩,
   ⟨(some 2), .alloc [(.int .i64 0), (.int .i64 0), (.str ByteArray.empty)], none, 256, 1, []⟩])
 (.seq (.reg [⟨(some 3), .alloc [(.int .i64 0), (.int .i64 0), (.str ByteArray.empty)], none, 65536, 0, []⟩])
 (.seq (.reg [⟨(some 4), .faddr 0 (.t 1), none, 131072, 0, []⟩,
   ⟨(some 5), .load 1 false (.t 4), none, 131328, 1, []⟩,
   ⟨(some 6), .faddr 0 (.t 3), none, 131584, 2, []⟩,
   ⟨none, .store 1 (.t 6) (.t 5), none, 131840, 3, []⟩])
 (.seq (.reg [⟨(some 7), .faddr 1 (.t 1), none, 196608, 0, []⟩,
   ⟨(some 8), .load 1 false (.t 7), none, 196864, 1, []⟩,
   ⟨(some 9), .faddr 1 (.t 3), none, 197120, 2, []⟩,
   ⟨none, .store 1 (.t 9) (.t 8), none, 197376, 3, []⟩])
 (.seq (.reg [⟨(some 10), .faddr 2 (.t 1), none, 262144, 0, []⟩,
   ⟨(some 11), .load 1 false (.t 10), none, 262400, 1, []⟩,
   ⟨(some 12), .faddr 2 (.t 3), none, 262656, 2, []⟩,
   ⟨none, .store 1 (.t 12) (.t 11), none, 262912, 3, []⟩])
 (.seq (.reg [⟨(some 13), .load 3 true (.t 3), none, 327680, 0, []⟩,
   ⟨none, .store 3 (.t 2) (.t 13), none, 327936, 1, []⟩])
 (.ret))))))⟩
/-- loop.example/g00849/impl.CallerOk -/
def F17 : F := ⟨1, 47, [.t 2],
 .seq (.reg [⟨(some 1), .box (.t 0), none, 0, 0, []⟩,
   ⟨(some 2), .mv (.k (.bool false)), none, 256, 1, []⟩])
 (.seq (.seq (.reg [⟨(some 3), .faddr 0 (.t 1), none, 65536, 0, []⟩,
   ⟨(some 4), .load 1 false (.t 3), none, 65792, 1, []⟩,
   ⟨(some 5), .call 35 [(.t 4)] true, none, 66048, 2, []⟩,
   ⟨(some 6), .not (.t 5), none, 66304, 3, []⟩,
   ⟨(some 7), .mv (.t 6), none, 66560, 4, []⟩,
   ⟨(some 8), .faddr 1 (.t 1), (some (some 7, false)), 66816, 5, []⟩,
   ⟨(some 9), .load 1 false (.t 8), (some (some 7, false)), 67072, 6, []⟩,
   ⟨(some 10), .call 36 [(.t 9), (.k (.int .i64 0)), (.k (.int .i64 1000))] true, (some (some 7, false)), 67328, 7, []⟩,
   ⟨(some 11), .not (.t 10), (some (some 7, false)), 67584, 8, []⟩,
   ⟨(some 12), .pick (.t 7) (.k (.bool true)) (.t 11), none, 67840, 9, []⟩,
   ⟨(some 13), .mv (.t 12), none, 68096, 10, []⟩,
   ⟨(some 14), .faddr 9 (.t 1), (some (some 13, false)), 68352, 11, []⟩,
   ⟨(some 15), .load 1 false (.t 14), (some (some 13, false)), 68608, 12, []⟩,
   ⟨(some 16), .call 36 [(.t 15), (.k (.int .i64 0)), (.k (.int .i64 1000))] true, (some (some 13, false)), 68864, 13, []⟩,
   ⟨(some 17), .not (.t 16), (some (some 13, false)), 69120, 14, []⟩,
   ⟨(some 18), .pick (.t 13) (.k (.bool true)) (.t 17), none, 69376, 15, []⟩])
 (.cond (.t 18)
  (.seq (.reg [⟨(some 2), .mv (.k (.bool false)), none, 131072, 0, []⟩])
  (.ret))
  (.skip)))
 (.seq (.seq (.reg [⟨(some 19), .faddr 2 (.t 1), none, 196608, 0, []⟩,
   ⟨(some 20), .load 1 false (.t 19), none, 196864, 1, []⟩])
 (.cond (.t 20)
  (.seq (.reg [⟨(some 21), .faddr 1 (.t 1), none, 262144, 0, []⟩,
    ⟨(some 22), .load 1 false (.t 21), none, 262400, 1, []⟩,
    ⟨(some 23), .bin .geq (.t 22) (.k (.int .i64 1)), none, 262656, 2, []⟩,
    ⟨(some 24), .mv (.t 23), none, 262912, 3, []⟩,
    ⟨(some 25), .faddr 3 (.t 1), (some (some 24, true)), 263168, 4, []⟩,
    ⟨(some 26), .load 2 true (.t 25), (some (some 24, true)), 263424, 5, []⟩,
    ⟨(some 27), .call 37 [(.t 26)] true, (some (some 24, true)), 263680, 6, []⟩,
    ⟨(some 28), .pick (.t 24) (.t 27) (.k (.bool false)), none, 263936, 7, []⟩,
    ⟨(some 29), .mv (.t 28), none, 264192, 8, []⟩,
    ⟨(some 30), .faddr 5 (.t 1), (some (some 29, true)), 264448, 9, []⟩,
    ⟨(some 31), .load 1 false (.t 30), (some (some 29, true)), 264704, 10, []⟩,
    ⟨(some 32), .call 38 [(.t 31)] true, (some (some 29, true)), 264960, 11, []⟩,
    ⟨(some 33), .pick (.t 29) (.t 32) (.k (.bool false)), none, 265216, 12, []⟩,
    ⟨(some 34), .mv (.t 33), none, 265472, 13, []⟩,
    ⟨(some 35), .call 40 [] true, (some (some 34, true)), 265728, 14, []⟩,
    ⟨(some 36), .faddr 6 (.t 1), (some (some 34, true)), 265984, 15, []⟩,
    ⟨(some 37), .load 3 true (.t 36), (some (some 34, true)), 266240, 16, []⟩,
    ⟨(some 38), .call 39 [(.t 35), (.t 37)] true, (some (some 34, true)), 266496, 17, []⟩,
    ⟨(some 39), .pick (.t 34) (.t 38) (.k (.bool false)), none, 266752, 18, []⟩,
    ⟨(some 2), .mv (.t 39), none, 267008, 19, []⟩])
  (.ret))
  (.skip)))
 (.seq (.reg [⟨(some 40), .load 10 true (.t 1), none, 327680, 0, []⟩,
   ⟨(some 41), .faddr 0 (.t 1), none, 327936, 1, []⟩,
   ⟨(some 42), .load 1 false (.t 41), none, 328192, 2, []⟩,
   ⟨(some 43), .faddr 1 (.t 1), none, 328448, 3, []⟩,
   ⟨(some 44), .load 1 false (.t 43), none, 328704, 4, []⟩,
   ⟨(some 45), .build [(.int .i64 0), (.int .i64 0), (.bool false), (.int .i64 0), (.int .i64 0), (.str ByteArray.empty), (.int .i64 0), (.int .i64 0), (.str ByteArray.empty), (.int .i64 0)] [(0, 1, (.t 42)), (1, 1, (.t 44))], none, 328960, 5, []⟩,
   ⟨(some 46), .eqv false true [.i, .i, .b, .i, .i, .s, .i, .i, .s, .i] (.t 40) (.t 45), none, 329216, 6, []⟩,
   ⟨(some 2), .mv (.t 46), none, 329472, 7, []⟩])
 (.ret))))⟩
/-- loop.example/g00849/impl.isNode -/
def F18 : F := ⟨1, 5, [.t 2],
 .seq (.reg [⟨(some 2), .mv (.k (.bool false)), none, 0, 0, []⟩])
 (.seq (.reg [⟨(some 3), .mv (.t 0), none, 65536, 0, []⟩,
   ⟨(some 4), .call 36 [(.t 3), (.k (.int .i64 0)), (.k (.int .i64 15))] true, none, 65792, 1, []⟩,
   ⟨(some 2), .mv (.t 4), none, 66048, 2, []⟩])
 (.ret))⟩
/-- (loop.example/g00849/impl.Client).req -/
def F19 : F := ⟨1, 8, [.cell 2 2 true],
 .seq (.reg [⟨(some 1), .box (.t 0), none, 0, 0, []⟩,
   ⟨(some 2), .alloc [(.int .i64 0), (.int .i64 0)], none, 256, 1, []⟩])
 (.seq (.reg [⟨(some 3), .faddr 0 (.t 1), none, 65536, 0, []⟩,
   ⟨(some 4), .load 1 false (.t 3), none, 65792, 1, []⟩,
   ⟨(some 5), .faddr 1 (.t 1), none, 66048, 2, []⟩,
   ⟨(some 6), .load 1 false (.t 5), none, 66304, 3, []⟩,
   ⟨(some 7), .build [(.int .i64 0), (.int .i64 0)] [(0, 1, (.t 4)), (1, 1, (.t 6))], none, 66560, 4, []⟩,
   ⟨none, .store 2 (.t 2) (.t 7), none, 66816, 5, []⟩])
 (.ret))⟩
/-- loop.example/g00849/laws.eqPg -/
def F20 : F := ⟨2, 15, [.t 4],
 .seq (.reg [⟨(some 2), .box (.t 0), none, 0, 0, []⟩,
   ⟨(some 3), .box (.t 1), none, 256, 1, []⟩,
   ⟨(some 4), .mv (.k (.bool false)), none, 512, 2, []⟩])
 (.seq (.seq (.reg [⟨(some 5), .faddr 0 (.t 2), none, 65536, 0, []⟩,
   ⟨(some 6), .load 1 false (.t 5), none, 65792, 1, []⟩,
   ⟨(some 7), .faddr 0 (.t 3), none, 66048, 2, []⟩,
   ⟨(some 8), .load 1 false (.t 7), none, 66304, 3, []⟩,
   ⟨(some 9), .bin .neq (.t 6) (.t 8), none, 66560, 4, []⟩])
 (.cond (.t 9)
  (.seq (.reg [⟨(some 4), .mv (.k (.bool false)), none, 131072, 0, []⟩])
  (.ret))
  (.skip)))
 (.seq (.seq (.reg [⟨(some 10), .faddr 1 (.t 2), none, 196608, 0, []⟩,
   ⟨(some 11), .load 1 false (.t 10), none, 196864, 1, []⟩,
   ⟨(some 12), .faddr 1 (.t 3), none, 197120, 2, []⟩,
   ⟨(some 13), .load 1 false (.t 12), none, 197376, 3, []⟩,
   ⟨(some 14), .bin .neq (.t 11) (.t 13), none, 197632, 4, []⟩])
 (.cond (.t 14)
  (.seq (.reg [⟨(some 4), .mv (.k (.bool false)), none, 262144, 0, []⟩])
  (.ret))
  (.skip)))
 (.seq (.reg [⟨(some 4), .mv (.k (.bool true)), none, 327680, 0, []⟩])
 (.ret))))⟩
/-- loop.example/g00849/laws.eqOp -/
def F21 : F := ⟨2, 20, [.t 4],
 .seq (.reg [⟨(some 2), .box (.t 0), none, 0, 0, []⟩,
   ⟨(some 3), .box (.t 1), none, 256, 1, []⟩,
   ⟨(some 4), .mv (.k (.bool false)), none, 512, 2, []⟩])
 (.seq (.seq (.reg [⟨(some 5), .faddr 0 (.t 2), none, 65536, 0, []⟩,
   ⟨(some 6), .load 1 false (.t 5), none, 65792, 1, []⟩,
   ⟨(some 7), .faddr 0 (.t 3), none, 66048, 2, []⟩,
   ⟨(some 8), .load 1 false (.t 7), none, 66304, 3, []⟩,
   ⟨(some 9), .bin .neq (.t 6) (.t 8), none, 66560, 4, []⟩])
 (.cond (.t 9)
  (.seq (.reg [⟨(some 4), .mv (.k (.bool false)), none, 131072, 0, []⟩])
  (.ret))
  (.skip)))
 (.seq (.seq (.reg [⟨(some 10), .faddr 1 (.t 2), none, 196608, 0, []⟩,
   ⟨(some 11), .load 1 false (.t 10), none, 196864, 1, []⟩,
   ⟨(some 12), .faddr 1 (.t 3), none, 197120, 2, []⟩,
   ⟨(some 13), .load 1 false (.t 12), none, 197376, 3, []⟩,
   ⟨(some 14), .bin .neq (.t 11) (.t 13), none, 197632, 4, []⟩])
 (.cond (.t 14)
  (.seq (.reg [⟨(some 4), .mv (.k (.bool false)), none, 262144, 0, []⟩])
  (.ret))
  (.skip)))
 (.seq (.seq (.reg [⟨(some 15), .faddr 2 (.t 2), none, 327680, 0, []⟩,
   ⟨(some 16), .load 1 false (.t 15), none, 327936, 1, []⟩,
   ⟨(some 17), .faddr 2 (.t 3), none, 328192, 2, []⟩,
   ⟨(some 18), .load 1 false (.t 17), none, 328448, 3, []⟩,
   ⟨(some 19), .bin .neq (.t 16) (.t 18), none, 328704, 4, []⟩])
 (.cond (.t 19)
  (.seq (.reg [⟨(some 4), .mv (.k (.bool false)), none, 393216, 0, []⟩])
  (.ret))
  (.skip)))
 (.seq (.reg [⟨(some 4), .mv (.k (.bool true)), none, 458752, 0, []⟩])
 (.ret)))))⟩
/-- loop.example/g00849/laws.eqVer -/
def F22 : F := ⟨2, 15, [.t 4],
 .seq (.reg [⟨(some 2), .box (.t 0), none, 0, 0, []⟩,
   ⟨(some 3), .box (.t 1), none, 256, 1, []⟩,
   ⟨(some 4), .mv (.k (.bool false)), none, 512, 2, []⟩])
 (.seq (.seq (.reg [⟨(some 5), .faddr 0 (.t 2), none, 65536, 0, []⟩,
   ⟨(some 6), .load 1 false (.t 5), none, 65792, 1, []⟩,
   ⟨(some 7), .faddr 0 (.t 3), none, 66048, 2, []⟩,
   ⟨(some 8), .load 1 false (.t 7), none, 66304, 3, []⟩,
   ⟨(some 9), .bin .neq (.t 6) (.t 8), none, 66560, 4, []⟩])
 (.cond (.t 9)
  (.seq (.reg [⟨(some 4), .mv (.k (.bool false)), none, 131072, 0, []⟩])
  (.ret))
  (.skip)))
 (.seq (.seq (.reg [⟨(some 10), .faddr 1 (.t 2), none, 196608, 0, []⟩,
   ⟨(some 11), .load 1 false (.t 10), none, 196864, 1, []⟩,
   ⟨(some 12), .faddr 1 (.t 3), none, 197120, 2, []⟩,
   ⟨(some 13), .load 1 false (.t 12), none, 197376, 3, []⟩,
   ⟨(some 14), .bin .neq (.t 11) (.t 13), none, 197632, 4, []⟩])
 (.cond (.t 14)
  (.seq (.reg [⟨(some 4), .mv (.k (.bool false)), none, 262144, 0, []⟩])
  (.ret))
  (.skip)))
 (.seq (.reg [⟨(some 4), .mv (.k (.bool true)), none, 327680, 0, []⟩])
 (.ret))))⟩
/-- loop.example/g00849/laws.eqPgState -/
def F23 : F := ⟨2, 57, [.t 4],
 .seq (.reg [⟨(some 2), .box (.t 0), none, 0, 0, []⟩,
   ⟨(some 3), .box (.t 1), none, 256, 1, []⟩,
   ⟨(some 4), .mv (.k (.bool false)), none, 512, 2, []⟩])
 (.seq (.seq (.reg [⟨(some 5), .faddr 0 (.t 2), none, 65536, 0, []⟩,
   ⟨(some 6), .load 2 true (.t 5), none, 65792, 1, []⟩,
   ⟨(some 7), .faddr 0 (.t 3), none, 66048, 2, []⟩,
   ⟨(some 8), .load 2 true (.t 7), none, 66304, 3, []⟩,
   ⟨(some 9), .call 20 [(.t 6), (.t 8)] true, none, 66560, 4, []⟩,
   ⟨(some 10), .not (.t 9), none, 66816, 5, []⟩])
 (.cond (.t 10)
  (.seq (.reg [⟨(some 4), .mv (.k (.bool false)), none, 131072, 0, []⟩])
  (.ret))
  (.skip)))
 (.seq (.seq (.reg [⟨(some 11), .faddr 2 (.t 2), none, 196608, 0, []⟩,
   ⟨(some 12), .load 1 false (.t 11), none, 196864, 1, []⟩,
   ⟨(some 13), .faddr 2 (.t 3), none, 197120, 2, []⟩,
   ⟨(some 14), .load 1 false (.t 13), none, 197376, 3, []⟩,
   ⟨(some 15), .bin .neq (.t 12) (.t 14), none, 197632, 4, []⟩])
 (.cond (.t 15)
  (.seq (.reg [⟨(some 4), .mv (.k (.bool false)), none, 262144, 0, []⟩])
  (.ret))
  (.skip)))
 (.seq (.seq (.reg [⟨(some 16), .faddr 3 (.t 2), none, 327680, 0, []⟩,
   ⟨(some 17), .load 1 false (.t 16), none, 327936, 1, []⟩,
   ⟨(some 18), .faddr 3 (.t 3), none, 328192, 2, []⟩,
   ⟨(some 19), .load 1 false (.t 18), none, 328448, 3, []⟩,
   ⟨(some 20), .bin .neq (.t 17) (.t 19), none, 328704, 4, []⟩])
 (.cond (.t 20)
  (.seq (.reg [⟨(some 4), .mv (.k (.bool false)), none, 393216, 0, []⟩])
  (.ret))
  (.skip)))
 (.seq (.seq (.reg [⟨(some 21), .faddr 4 (.t 2), none, 458752, 0, []⟩,
   ⟨(some 22), .load 2 true (.t 21), none, 459008, 1, []⟩,
   ⟨(some 23), .faddr 4 (.t 3), none, 459264, 2, []⟩,
   ⟨(some 24), .load 2 true (.t 23), none, 459520, 3, []⟩,
   ⟨(some 25), .call 22 [(.t 22), (.t 24)] true, none, 459776, 4, []⟩,
   ⟨(some 26), .not (.t 25), none, 460032, 5, []⟩])
 (.cond (.t 26)
  (.seq (.reg [⟨(some 4), .mv (.k (.bool false)), none, 524288, 0, []⟩])
  (.ret))
  (.skip)))
 (.seq (.seq (.reg [⟨(some 27), .faddr 6 (.t 2), none, 589824, 0, []⟩,
   ⟨(some 28), .load 1 false (.t 27), none, 590080, 1, []⟩,
   ⟨(some 29), .faddr 6 (.t 3), none, 590336, 2, []⟩,
   ⟨(some 30), .load 1 false (.t 29), none, 590592, 3, []⟩,
   ⟨(some 31), .call 41 [(.t 28), (.t 30)] true, none, 590848, 4, []⟩,
   ⟨(some 32), .not (.t 31), none, 591104, 5, []⟩])
 (.cond (.t 32)
  (.seq (.reg [⟨(some 4), .mv (.k (.bool false)), none, 655360, 0, []⟩])
  (.ret))
  (.skip)))
 (.seq (.seq (.reg [⟨(some 33), .faddr 7 (.t 2), none, 720896, 0, []⟩,
   ⟨(some 34), .load 1 false (.t 33), none, 721152, 1, []⟩,
   ⟨(some 35), .faddr 7 (.t 3), none, 721408, 2, []⟩,
   ⟨(some 36), .load 1 false (.t 35), none, 721664, 3, []⟩,
   ⟨(some 37), .call 42 [(.t 34), (.t 36)] true, none, 721920, 4, []⟩,
   ⟨(some 38), .not (.t 37), none, 722176, 5, []⟩])
 (.cond (.t 38)
  (.seq (.reg [⟨(some 4), .mv (.k (.bool false)), none, 786432, 0, []⟩])
  (.ret))
  (.skip)))
 (.seq (.seq (.reg [⟨(some 39), .faddr 8 (.t 2), none, 851968, 0, []⟩,
   ⟨(some 40), .load 1 false (.t 39), none, 852224, 1, []⟩,
   ⟨(some 41), .faddr 8 (.t 3), none, 852480, 2, []⟩,
   ⟨(some 42), .load 1 false (.t 41), none, 852736, 3, []⟩,
   ⟨(some 43), .call 43 [(.t 40), (.t 42)] true, none, 852992, 4, []⟩,
   ⟨(some 44), .not (.t 43), none, 853248, 5, []⟩])
 (.cond (.t 44)
  (.seq (.reg [⟨(some 4), .mv (.k (.bool false)), none, 917504, 0, []⟩])
  (.ret))
  (.skip)))
 (.seq (.seq (.reg [⟨(some 45), .faddr 9 (.t 2), none, 983040, 0, []⟩,
   ⟨(some 46), .load 2 true (.t 45), none, 983296, 1, []⟩,
   ⟨(some 47), .faddr 9 (.t 3), none, 983552, 2, []⟩,
   ⟨(some 48), .load 2 true (.t 47), none, 983808, 3, []⟩,
   ⟨(some 49), .call 22 [(.t 46), (.t 48)] true, none, 984064, 4, []⟩,
   ⟨(some 50), .not (.t 49), none, 984320, 5, []⟩])
 (.cond (.t 50)
  (.seq (.reg [⟨(some 4), .mv (.k (.bool false)), none, 1048576, 0, []⟩])
  (.ret))
  (.skip)))
 (.seq (.seq (.reg [⟨(some 51), .faddr 11 (.t 2), none, 1114112, 0, []⟩,
   ⟨(some 52), .load 1 false (.t 51), none, 1114368, 1, []⟩,
   ⟨(some 53), .faddr 11 (.t 3), none, 1114624, 2, []⟩,
   ⟨(some 54), .load 1 false (.t 53), none, 1114880, 3, []⟩,
   ⟨(some 55), .call 44 [(.t 52), (.t 54)] true, none, 1115136, 4, []⟩,
   ⟨(some 56), .not (.t 55), none, 1115392, 5, []⟩])
 (.cond (.t 56)
  (.seq (.reg [⟨(some 4), .mv (.k (.bool false)), none, 1179648, 0, []⟩])
  (.ret))
  (.skip)))
 (.seq (.reg [⟨(some 4), .mv (.k (.bool true)), none, 1245184, 0, []⟩])
 (.ret)))))))))))⟩
/-- loop.example/g00849/laws.eqEntry -/
def F24 : F := ⟨2, 43, [.t 4],
 .seq (.reg [⟨(some 2), .box (.t 0), none, 0, 0, []⟩,
   ⟨(some 3), .box (.t 1), none, 256, 1, []⟩,
   ⟨(some 4), .mv (.k (.bool false)), none, 512, 2, []⟩])
 (.seq (.seq (.reg [⟨(some 5), .faddr 0 (.t 2), none, 65536, 0, []⟩,
   ⟨(some 6), .load 2 true (.t 5), none, 65792, 1, []⟩,
   ⟨(some 7), .faddr 0 (.t 3), none, 66048, 2, []⟩,
   ⟨(some 8), .load 2 true (.t 7), none, 66304, 3, []⟩,
   ⟨(some 9), .call 22 [(.t 6), (.t 8)] true, none, 66560, 4, []⟩,
   ⟨(some 10), .not (.t 9), none, 66816, 5, []⟩])
 (.cond (.t 10)
  (.seq (.reg [⟨(some 4), .mv (.k (.bool false)), none, 131072, 0, []⟩])
  (.ret))
  (.skip)))
 (.seq (.seq (.reg [⟨(some 11), .faddr 2 (.t 2), none, 196608, 0, []⟩,
   ⟨(some 12), .load 2 true (.t 11), none, 196864, 1, []⟩,
   ⟨(some 13), .faddr 2 (.t 3), none, 197120, 2, []⟩,
   ⟨(some 14), .load 2 true (.t 13), none, 197376, 3, []⟩,
   ⟨(some 15), .call 22 [(.t 12), (.t 14)] true, none, 197632, 4, []⟩,
   ⟨(some 16), .not (.t 15), none, 197888, 5, []⟩])
 (.cond (.t 16)
  (.seq (.reg [⟨(some 4), .mv (.k (.bool false)), none, 262144, 0, []⟩])
  (.ret))
  (.skip)))
 (.seq (.seq (.reg [⟨(some 17), .faddr 4 (.t 2), none, 327680, 0, []⟩,
   ⟨(some 18), .load 1 false (.t 17), none, 327936, 1, []⟩,
   ⟨(some 19), .faddr 4 (.t 3), none, 328192, 2, []⟩,
   ⟨(some 20), .load 1 false (.t 19), none, 328448, 3, []⟩,
   ⟨(some 21), .bin .neq (.t 18) (.t 20), none, 328704, 4, []⟩])
 (.cond (.t 21)
  (.seq (.reg [⟨(some 4), .mv (.k (.bool false)), none, 393216, 0, []⟩])
  (.ret))
  (.skip)))
 (.seq (.seq (.reg [⟨(some 22), .faddr 5 (.t 2), none, 458752, 0, []⟩,
   ⟨(some 23), .load 1 false (.t 22), none, 459008, 1, []⟩,
   ⟨(some 24), .faddr 5 (.t 3), none, 459264, 2, []⟩,
   ⟨(some 25), .load 1 false (.t 24), none, 459520, 3, []⟩,
   ⟨(some 26), .eqv true false [.b] (.t 23) (.t 25), none, 459776, 4, []⟩])
 (.cond (.t 26)
  (.seq (.reg [⟨(some 4), .mv (.k (.bool false)), none, 524288, 0, []⟩])
  (.ret))
  (.skip)))
 (.seq (.seq (.reg [⟨(some 27), .faddr 6 (.t 2), none, 589824, 0, []⟩,
   ⟨(some 28), .load 1 false (.t 27), none, 590080, 1, []⟩,
   ⟨(some 29), .faddr 6 (.t 3), none, 590336, 2, []⟩,
   ⟨(some 30), .load 1 false (.t 29), none, 590592, 3, []⟩,
   ⟨(some 31), .bin .neq (.t 28) (.t 30), none, 590848, 4, []⟩])
 (.cond (.t 31)
  (.seq (.reg [⟨(some 4), .mv (.k (.bool false)), none, 655360, 0, []⟩])
  (.ret))
  (.skip)))
 (.seq (.seq (.reg [⟨(some 32), .faddr 7 (.t 2), none, 720896, 0, []⟩,
   ⟨(some 33), .load 1 false (.t 32), none, 721152, 1, []⟩,
   ⟨(some 34), .faddr 7 (.t 3), none, 721408, 2, []⟩,
   ⟨(some 35), .load 1 false (.t 34), none, 721664, 3, []⟩,
   ⟨(some 36), .bin .neq (.t 33) (.t 35), none, 721920, 4, []⟩])
 (.cond (.t 36)
  (.seq (.reg [⟨(some 4), .mv (.k (.bool false)), none, 786432, 0, []⟩])
  (.ret))
  (.skip)))
 (.seq (.seq (.reg [⟨(some 37), .faddr 8 (.t 2), none, 851968, 0, []⟩,
   ⟨(some 38), .load 2 true (.t 37), none, 852224, 1, []⟩,
   ⟨(some 39), .faddr 8 (.t 3), none, 852480, 2, []⟩,
   ⟨(some 40), .load 2 true (.t 39), none, 852736, 3, []⟩,
   ⟨(some 41), .call 26 [(.t 38), (.t 40)] true, none, 852992, 4, []⟩,
   ⟨(some 42), .not (.t 41), none, 853248, 5, []⟩])
 (.cond (.t 42)
  (.seq (.reg [⟨(some 4), .mv (.k (.bool false)), none, 917504, 0, []⟩])
  (.ret))
  (.skip)))
 (.seq (.reg [⟨(some 4), .mv (.k (.bool true)), none, 983040, 0, []⟩])
 (.ret)))))))))⟩
/-- loop.example/g00849/laws.eqChunk -/
def F25 : F := ⟨2, 31, [.t 4],
 .seq (.reg [⟨(some 2), .box (.t 0), none, 0, 0, []⟩,
   ⟨(some 3), .box (.t 1), none, 256, 1, []⟩,
   ⟨(some 4), .mv (.k (.bool false)), none, 512, 2, []⟩])
 (.seq (.seq (.reg [⟨(some 5), .faddr 0 (.t 2), none, 65536, 0, []⟩,
   ⟨(some 6), .load 1 false (.t 5), none, 65792, 1, []⟩,
   ⟨(some 7), .faddr 0 (.t 3), none, 66048, 2, []⟩,
   ⟨(some 8), .load 1 false (.t 7), none, 66304, 3, []⟩,
   ⟨(some 9), .bin .neq (.t 6) (.t 8), none, 66560, 4, []⟩])
 (.cond (.t 9)
  (.seq (.reg [⟨(some 4), .mv (.k (.bool false)), none, 131072, 0, []⟩])
  (.ret))
  (.skip)))
 (.seq (.seq (.reg [⟨(some 10), .faddr 1 (.t 2), none, 196608, 0, []⟩,
   ⟨(some 11), .load 2 true (.t 10), none, 196864, 1, []⟩,
   ⟨(some 12), .faddr 1 (.t 3), none, 197120, 2, []⟩,
   ⟨(some 13), .load 2 true (.t 12), none, 197376, 3, []⟩,
   ⟨(some 14), .call 22 [(.t 11), (.t 13)] true, none, 197632, 4, []⟩,
   ⟨(some 15), .not (.t 14), none, 197888, 5, []⟩])
 (.cond (.t 15)
  (.seq (.reg [⟨(some 4), .mv (.k (.bool false)), none, 262144, 0, []⟩])
  (.ret))
  (.skip)))
 (.seq (.seq (.reg [⟨(some 16), .faddr 3 (.t 2), none, 327680, 0, []⟩,
   ⟨(some 17), .load 1 false (.t 16), none, 327936, 1, []⟩,
   ⟨(some 18), .faddr 3 (.t 3), none, 328192, 2, []⟩,
   ⟨(some 19), .load 1 false (.t 18), none, 328448, 3, []⟩,
   ⟨(some 20), .bin .neq (.t 17) (.t 19), none, 328704, 4, []⟩])
 (.cond (.t 20)
  (.seq (.reg [⟨(some 4), .mv (.k (.bool false)), none, 393216, 0, []⟩])
  (.ret))
  (.skip)))
 (.seq (.seq (.reg [⟨(some 21), .faddr 4 (.t 2), none, 458752, 0, []⟩,
   ⟨(some 22), .load 1 false (.t 21), none, 459008, 1, []⟩,
   ⟨(some 23), .faddr 4 (.t 3), none, 459264, 2, []⟩,
   ⟨(some 24), .load 1 false (.t 23), none, 459520, 3, []⟩,
   ⟨(some 25), .bin .neq (.t 22) (.t 24), none, 459776, 4, []⟩])
 (.cond (.t 25)
  (.seq (.reg [⟨(some 4), .mv (.k (.bool false)), none, 524288, 0, []⟩])
  (.ret))
  (.skip)))
 (.seq (.seq (.reg [⟨(some 26), .faddr 5 (.t 2), none, 589824, 0, []⟩,
   ⟨(some 27), .load 1 false (.t 26), none, 590080, 1, []⟩,
   ⟨(some 28), .faddr 5 (.t 3), none, 590336, 2, []⟩,
   ⟨(some 29), .load 1 false (.t 28), none, 590592, 3, []⟩,
   ⟨(some 30), .bin .neq (.t 27) (.t 29), none, 590848, 4, []⟩])
 (.cond (.t 30)
  (.seq (.reg [⟨(some 4), .mv (.k (.bool false)), none, 655360, 0, []⟩])
  (.ret))
  (.skip)))
 (.seq (.reg [⟨(some 4), .mv (.k (.bool true)), none, 720896, 0, []⟩])
 (.ret)))))))⟩
/-- loop.example/g00849/laws.eqReq -/
def F26 : F := ⟨2, 15, [.t 4],
 .seq (.reg [⟨(some 2), .box (.t 0), none, 0, 0, []⟩,
   ⟨(some 3), .box (.t 1), none, 256, 1, []⟩,
   ⟨(some 4), .mv (.k (.bool false)), none, 512, 2, []⟩])
 (.seq (.seq (.reg [⟨(some 5), .faddr 0 (.t 2), none, 65536, 0, []⟩,
   ⟨(some 6), .load 1 false (.t 5), none, 65792, 1, []⟩,
   ⟨(some 7), .faddr 0 (.t 3), none, 66048, 2, []⟩,
   ⟨(some 8), .load 1 false (.t 7), none, 66304, 3, []⟩,
   ⟨(some 9), .bin .neq (.t 6) (.t 8), none, 66560, 4, []⟩])
 (.cond (.t 9)
  (.seq (.reg [⟨(some 4), .mv (.k (.bool false)), none, 131072, 0, []⟩])
  (.ret))
  (.skip)))
 (.seq (.seq (.reg [⟨(some 10), .faddr 1 (.t 2), none, 196608, 0, []⟩,
   ⟨(some 11), .load 1 false (.t 10), none, 196864, 1, []⟩,
   ⟨(some 12), .faddr 1 (.t 3), none, 197120, 2, []⟩,
   ⟨(some 13), .load 1 false (.t 12), none, 197376, 3, []⟩,
   ⟨(some 14), .bin .neq (.t 11) (.t 13), none, 197632, 4, []⟩])
 (.cond (.t 14)
  (.seq (.reg [⟨(some 4), .mv (.k (.bool false)), none, 262144, 0, []⟩])
  (.ret))
  (.skip)))
 (.seq (.reg [⟨(some 4), .mv (.k (.bool true)), none, 327680, 0, []⟩])
 (.ret))))⟩
/-- loop.example/g00849/laws.markPgState -/
def F27 : F := ⟨2, 22, [.t 4],
 .seq (.reg [⟨(some 2), .box (.t 0), none, 0, 0, []⟩,
   ⟨(some 4), .mv (.k (.int .i64 0)), none, 256, 1, []⟩])
 (.seq (.reg [⟨(some 5), .faddr 6 (.t 2), none, 65536, 0, []⟩,
   ⟨(some 6), .load 1 false (.t 5), none, 65792, 1, []⟩,
   ⟨(some 7), .mv (.t 1), none, 66048, 2, []⟩,
   ⟨(some 8), .call 45 [(.t 6), (.t 7)] true, none, 66304, 3, []⟩,
   ⟨(some 1), .mv (.t 8), none, 66560, 4, []⟩])
 (.seq (.reg [⟨(some 9), .faddr 7 (.t 2), none, 131072, 0, []⟩,
   ⟨(some 10), .load 1 false (.t 9), none, 131328, 1, []⟩,
   ⟨(some 11), .mv (.t 1), none, 131584, 2, []⟩,
   ⟨(some 12), .call 46 [(.t 10), (.t 11)] true, none, 131840, 3, []⟩,
   ⟨(some 1), .mv (.t 12), none, 132096, 4, []⟩])
 (.seq (.reg [⟨(some 13), .faddr 8 (.t 2), none, 196608, 0, []⟩,
   ⟨(some 14), .load 1 false (.t 13), none, 196864, 1, []⟩,
   ⟨(some 15), .mv (.t 1), none, 197120, 2, []⟩,
   ⟨(some 16), .call 47 [(.t 14), (.t 15)] true, none, 197376, 3, []⟩,
   ⟨(some 1), .mv (.t 16), none, 197632, 4, []⟩])
 (.seq (.reg [⟨(some 17), .faddr 11 (.t 2), none, 262144, 0, []⟩,
   ⟨(some 18), .load 1 false (.t 17), none, 262400, 1, []⟩,
   ⟨(some 19), .mv (.t 1), none, 262656, 2, []⟩,
   ⟨(some 20), .call 48 [(.t 18), (.t 19)] true, none, 262912, 3, []⟩,
   ⟨(some 1), .mv (.t 20), none, 263168, 4, []⟩])
 (.seq (.reg [⟨(some 21), .mv (.t 1), none, 327680, 0, []⟩,
   ⟨(some 4), .mv (.t 21), none, 327936, 1, []⟩])
 (.ret))))))⟩
/-- loop.example/g00849/laws.heldPgState -/
def F28 : F := ⟨2, 30, [.t 4],
 .seq (.reg [⟨(some 2), .box (.t 0), none, 0, 0, []⟩,
   ⟨(some 4), .mv (.k (.int .i64 0)), none, 256, 1, []⟩])
 (.seq (.reg [⟨(some 5), .faddr 6 (.t 2), none, 65536, 0, []⟩,
   ⟨(some 6), .load 1 false (.t 5), none, 65792, 1, []⟩,
   ⟨(some 7), .mv (.t 1), none, 66048, 2, []⟩,
   ⟨(some 8), .call 49 [(.t 6), (.t 7)] true, none, 66304, 3, []⟩,
   ⟨(some 1), .mv (.t 8), none, 66560, 4, []⟩])
 (.seq (.seq (.reg [⟨(some 9), .mv (.t 1), none, 131072, 0, []⟩,
   ⟨(some 10), .bin .lss (.t 9) (.k (.int .i64 0)), none, 131328, 1, []⟩])
 (.cond (.t 10)
  (.seq (.reg [⟨(some 4), .mv (.k (.int .i64 (-1))), none, 196608, 0, []⟩])
  (.ret))
  (.skip)))
 (.seq (.reg [⟨(some 11), .faddr 7 (.t 2), none, 262144, 0, []⟩,
   ⟨(some 12), .load 1 false (.t 11), none, 262400, 1, []⟩,
   ⟨(some 13), .mv (.t 1), none, 262656, 2, []⟩,
   ⟨(some 14), .call 50 [(.t 12), (.t 13)] true, none, 262912, 3, []⟩,
   ⟨(some 1), .mv (.t 14), none, 263168, 4, []⟩])
 (.seq (.seq (.reg [⟨(some 15), .mv (.t 1), none, 327680, 0, []⟩,
   ⟨(some 16), .bin .lss (.t 15) (.k (.int .i64 0)), none, 327936, 1, []⟩])
 (.cond (.t 16)
  (.seq (.reg [⟨(some 4), .mv (.k (.int .i64 (-1))), none, 393216, 0, []⟩])
  (.ret))
  (.skip)))
 (.seq (.reg [⟨(some 17), .faddr 8 (.t 2), none, 458752, 0, []⟩,
   ⟨(some 18), .load 1 false (.t 17), none, 459008, 1, []⟩,
   ⟨(some 19), .mv (.t 1), none, 459264, 2, []⟩,
   ⟨(some 20), .call 51 [(.t 18), (.t 19)] true, none, 459520, 3, []⟩,
   ⟨(some 1), .mv (.t 20), none, 459776, 4, []⟩])
 (.seq (.seq (.reg [⟨(some 21), .mv (.t 1), none, 524288, 0, []⟩,
   ⟨(some 22), .bin .lss (.t 21) (.k (.int .i64 0)), none, 524544, 1, []⟩])
 (.cond (.t 22)
  (.seq (.reg [⟨(some 4), .mv (.k (.int .i64 (-1))), none, 589824, 0, []⟩])
  (.ret))
  (.skip)))
 (.seq (.reg [⟨(some 23), .faddr 11 (.t 2), none, 655360, 0, []⟩,
   ⟨(some 24), .load 1 false (.t 23), none, 655616, 1, []⟩,
   ⟨(some 25), .mv (.t 1), none, 655872, 2, []⟩,
   ⟨(some 26), .call 52 [(.t 24), (.t 25)] true, none, 656128, 3, []⟩,
   ⟨(some 1), .mv (.t 26), none, 656384, 4, []⟩])
 (.seq (.seq (.reg [⟨(some 27), .mv (.t 1), none, 720896, 0, []⟩,
   ⟨(some 28), .bin .lss (.t 27) (.k (.int .i64 0)), none, 721152, 1, []⟩])
 (.cond (.t 28)
  (.seq (.reg [⟨(some 4), .mv (.k (.int .i64 (-1))), none, 786432, 0, []⟩])
  (.ret))
  (.skip)))
 (.seq (.reg [⟨(some 29), .mv (.t 1), none, 851968, 0, []⟩,
   ⟨(some 4), .mv (.t 29), none, 852224, 1, []⟩])
 (.ret))))))))))⟩
/-- loop.example/g00849/spec.l17Client -/
def F29 : F := ⟨1, 5, [.t 2],
 .seq (.reg [⟨(some 2), .mv (.k (.bool false)), none, 0, 0, []⟩])
 (.seq (.reg [⟨(some 3), .mv (.t 0), none, 65536, 0, []⟩,
   ⟨(some 4), .call 30 [(.t 3), (.k (.int .i64 100)), (.k (.int .i64 105))] true, none, 65792, 1, []⟩,
   ⟨(some 2), .mv (.t 4), none, 66048, 2, []⟩])
 (.ret))⟩
/-- loop.example/g00849/spec.l00In -/
def F30 : F := ⟨3, 15, [.t 6],
 .seq (.reg [⟨(some 6), .mv (.k (.bool false)), none, 0, 0, []⟩])
 (.seq (.reg [⟨(some 7), .mv (.t 0), none, 65536, 0, []⟩,
   ⟨(some 8), .mv (.t 1), none, 65792, 1, []⟩,
   ⟨(some 9), .bin .geq (.t 7) (.t 8), none, 66048, 2, []⟩,
   ⟨(some 10), .mv (.t 9), none, 66304, 3, []⟩,
   ⟨(some 11), .mv (.t 0), (some (some 10, true)), 66560, 4, []⟩,
   ⟨(some 12), .mv (.t 2), (some (some 10, true)), 66816, 5, []⟩,
   ⟨(some 13), .bin .leq (.t 11) (.t 12), (some (some 10, true)), 67072, 6, []⟩,
   ⟨(some 14), .pick (.t 10) (.t 13) (.k (.bool false)), none, 67328, 7, []⟩,
   ⟨(some 6), .mv (.t 14), none, 67584, 8, []⟩])
 (.ret))⟩
/-- loop.example/g00849/spec.l17Pg -/
def F31 : F := ⟨1, 11, [.t 2],
 .seq (.reg [⟨(some 1), .box (.t 0), none, 0, 0, []⟩,
   ⟨(some 2), .mv (.k (.bool false)), none, 256, 1, []⟩])
 (.seq (.reg [⟨(some 3), .faddr 0 (.t 1), none, 65536, 0, []⟩,
   ⟨(some 4), .load 1 false (.t 3), none, 65792, 1, []⟩,
   ⟨(some 5), .call 30 [(.t 4), (.k (.int .i64 1)), (.k (.int .i64 4))] true, none, 66048, 2, []⟩,
   ⟨(some 6), .mv (.t 5), none, 66304, 3, []⟩,
   ⟨(some 7), .faddr 1 (.t 1), (some (some 6, true)), 66560, 4, []⟩,
   ⟨(some 8), .load 1 false (.t 7), (some (some 6, true)), 66816, 5, []⟩,
   ⟨(some 9), .call 30 [(.t 8), (.k (.int .i64 0)), (.k (.int .i64 15))] true, (some (some 6, true)), 67072, 6, []⟩,
   ⟨(some 10), .pick (.t 6) (.t 9) (.k (.bool false)), none, 67328, 7, []⟩,
   ⟨(some 2), .mv (.t 10), none, 67584, 8, []⟩])
 (.ret))⟩
/-- loop.example/g00849/spec.NameOk -/
def F32 : F := ⟨1, 5, [.t 2],
 .seq (.reg [⟨(some 2), .mv (.k (.bool false)), none, 0, 0, []⟩])
 (.seq (.reg [⟨(some 3), .mv (.t 0), none, 65536, 0, []⟩,
   ⟨(some 4), .call 53 [(.t 3)] true, none, 65792, 1, []⟩,
   ⟨(some 2), .mv (.t 4), none, 66048, 2, []⟩])
 (.ret))⟩
/-- loop.example/g00849/spec.OpOk -/
def F33 : F := ⟨2, 75, [.t 4],
 .seq (.reg [⟨(some 2), .box (.t 0), none, 0, 0, []⟩,
   ⟨(some 3), .box (.t 1), none, 256, 1, []⟩,
   ⟨(some 4), .mv (.k (.bool false)), none, 512, 2, []⟩])
 (.seq (.seq (.reg [⟨(some 7), .load 2 true (.t 2), none, 65536, 0, []⟩,
   ⟨(some 8), .call 54 [(.t 7)] true, none, 65792, 1, []⟩,
   ⟨(some 9), .not (.t 8), none, 66048, 2, []⟩])
 (.cond (.t 9)
  (.seq (.reg [⟨(some 4), .mv (.k (.bool false)), none, 131072, 0, []⟩])
  (.ret))
  (.skip)))
 (.seq (.reg [⟨(some 10), .faddr 2 (.t 3), none, 196608, 0, []⟩,
   ⟨(some 11), .load 1 false (.t 10), none, 196864, 1, []⟩,
   ⟨(some 12), .len true (.t 11), none, 197120, 2, []⟩,
   ⟨(some 13), .bin .leq (.t 12) (.k (.int .i64 64)), none, 197376, 3, []⟩,
   ⟨(some 14), .faddr 1 (.t 3), none, 197632, 4, []⟩,
   ⟨(some 15), .load 1 false (.t 14), none, 197888, 5, []⟩,
   ⟨(some 16), .call 30 [(.t 15), (.k (.int .i64 0)), (.k (.int .i64 64))] true, none, 198144, 6, []⟩,
   ⟨(some 5), .mv (.t 13), none, 198400, 7, []⟩,
   ⟨(some 6), .mv (.t 16), none, 198656, 8, []⟩])
 (.seq (.seq (.reg [⟨(some 17), .faddr 0 (.t 3), none, 262144, 0, []⟩,
   ⟨(some 18), .load 1 false (.t 17), none, 262400, 1, []⟩])
 (.block 0 (.seq (.seq (.reg [⟨(some 20), .bin .eql (.t 18) (.k (.int .i64 1)), none, 327680, 0, []⟩,
   ⟨(some 19), .mv (.t 20), none, 327936, 1, []⟩])
 (.cond (.t 19)
  (.skip)
  (.reg [⟨(some 21), .bin .eql (.t 18) (.k (.int .i64 6)), none, 393216, 0, []⟩,
    ⟨(some 19), .mv (.t 21), none, 393472, 1, []⟩])))
 (.cond (.t 19)
  (.seq (.reg [⟨(some 22), .faddr 1 (.t 3), none, 458752, 0, []⟩,
    ⟨(some 23), .load 1 false (.t 22), none, 459008, 1, []⟩,
    ⟨(some 24), .bin .eql (.t 23) (.k (.int .i64 0)), none, 459264, 2, []⟩,
    ⟨(some 25), .mv (.t 24), none, 459520, 3, []⟩,
    ⟨(some 26), .faddr 2 (.t 3), (some (some 25, true)), 459776, 4, []⟩,
    ⟨(some 27), .load 1 false (.t 26), (some (some 25, true)), 460032, 5, []⟩,
    ⟨(some 28), .bin .eql (.t 27) (.k (.str ByteArray.empty)), (some (some 25, true)), 460288, 6, []⟩,
    ⟨(some 29), .pick (.t 25) (.t 28) (.k (.bool false)), none, 460544, 7, []⟩,
    ⟨(some 4), .mv (.t 29), none, 460800, 8, []⟩])
  (.ret))
  (.seq (.reg [⟨(some 31), .bin .eql (.t 18) (.k (.int .i64 2)), none, 524288, 0, []⟩,
    ⟨(some 30), .mv (.t 31), none, 524544, 1, []⟩])
  (.cond (.t 30)
   (.seq (.reg [⟨(some 32), .faddr 1 (.t 3), none, 589824, 0, []⟩,
     ⟨(some 33), .load 1 false (.t 32), none, 590080, 1, []⟩,
     ⟨(some 34), .bin .eql (.t 33) (.k (.int .i64 0)), none, 590336, 2, []⟩,
     ⟨(some 35), .mv (.t 34), none, 590592, 3, []⟩,
     ⟨(some 36), .mv (.t 5), (some (some 35, true)), 590848, 4, []⟩,
     ⟨(some 37), .pick (.t 35) (.t 36) (.k (.bool false)), none, 591104, 5, []⟩,
     ⟨(some 4), .mv (.t 37), none, 591360, 6, []⟩])
   (.ret))
   (.seq (.reg [⟨(some 39), .bin .eql (.t 18) (.k (.int .i64 3)), none, 655360, 0, []⟩,
     ⟨(some 38), .mv (.t 39), none, 655616, 1, []⟩])
   (.cond (.t 38)
    (.seq (.reg [⟨(some 40), .faddr 0 (.t 2), none, 720896, 0, []⟩,
      ⟨(some 41), .load 1 false (.t 40), none, 721152, 1, []⟩,
      ⟨(some 42), .bin .eql (.t 41) (.k (.int .i64 1)), none, 721408, 2, []⟩,
      ⟨(some 43), .mv (.t 42), none, 721664, 3, []⟩,
      ⟨(some 44), .mv (.t 6), (some (some 43, true)), 721920, 4, []⟩,
      ⟨(some 45), .pick (.t 43) (.t 44) (.k (.bool false)), none, 722176, 5, []⟩,
      ⟨(some 46), .mv (.t 45), none, 722432, 6, []⟩,
      ⟨(some 47), .mv (.t 5), (some (some 46, true)), 722688, 7, []⟩,
      ⟨(some 48), .pick (.t 46) (.t 47) (.k (.bool false)), none, 722944, 8, []⟩,
      ⟨(some 4), .mv (.t 48), none, 723200, 9, []⟩])
    (.ret))
    (.seq (.reg [⟨(some 50), .bin .eql (.t 18) (.k (.int .i64 4)), none, 786432, 0, []⟩,
      ⟨(some 49), .mv (.t 50), none, 786688, 1, []⟩])
    (.cond (.t 49)
     (.seq (.reg [⟨(some 51), .faddr 0 (.t 2), none, 851968, 0, []⟩,
       ⟨(some 52), .load 1 false (.t 51), none, 852224, 1, []⟩,
       ⟨(some 53), .bin .eql (.t 52) (.k (.int .i64 1)), none, 852480, 2, []⟩,
       ⟨(some 54), .mv (.t 53), none, 852736, 3, []⟩,
       ⟨(some 55), .faddr 1 (.t 3), (some (some 54, true)), 852992, 4, []⟩,
       ⟨(some 56), .load 1 false (.t 55), (some (some 54, true)), 853248, 5, []⟩,
       ⟨(some 57), .bin .eql (.t 56) (.k (.int .i64 0)), (some (some 54, true)), 853504, 6, []⟩,
       ⟨(some 58), .pick (.t 54) (.t 57) (.k (.bool false)), none, 853760, 7, []⟩,
       ⟨(some 59), .mv (.t 58), none, 854016, 8, []⟩,
       ⟨(some 60), .mv (.t 5), (some (some 59, true)), 854272, 9, []⟩,
       ⟨(some 61), .pick (.t 59) (.t 60) (.k (.bool false)), none, 854528, 10, []⟩,
       ⟨(some 4), .mv (.t 61), none, 854784, 11, []⟩])
     (.ret))
     (.seq (.reg [⟨(some 63), .bin .eql (.t 18) (.k (.int .i64 5)), none, 917504, 0, []⟩,
       ⟨(some 62), .mv (.t 63), none, 917760, 1, []⟩])
     (.cond (.t 62)
      (.seq (.reg [⟨(some 64), .faddr 0 (.t 2), none, 983040, 0, []⟩,
        ⟨(some 65), .load 1 false (.t 64), none, 983296, 1, []⟩,
        ⟨(some 66), .bin .eql (.t 65) (.k (.int .i64 1)), none, 983552, 2, []⟩,
        ⟨(some 67), .mv (.t 66), none, 983808, 3, []⟩,
        ⟨(some 68), .mv (.t 6), (some (some 67, true)), 984064, 4, []⟩,
        ⟨(some 69), .pick (.t 67) (.t 68) (.k (.bool false)), none, 984320, 5, []⟩,
        ⟨(some 70), .mv (.t 69), none, 984576, 6, []⟩,
        ⟨(some 71), .faddr 2 (.t 3), (some (some 70, true)), 984832, 7, []⟩,
        ⟨(some 72), .load 1 false (.t 71), (some (some 70, true)), 985088, 8, []⟩,
        ⟨(some 73), .bin .eql (.t 72) (.k (.str ByteArray.empty)), (some (some 70, true)), 985344, 9, []⟩,
        ⟨(some 74), .pick (.t 70) (.t 73) (.k (.bool false)), none, 985600, 10, []⟩,
        ⟨(some 4), .mv (.t 74), none, 985856, 11, []⟩])
      (.ret))
      (.skip)))))))))))))
 (.seq (.reg [⟨(some 4), .mv (.k (.bool false)), none, 1048576, 0, []⟩])
 (.ret)))))⟩
/-- loop.example/g00849/spec.l16Plain -/
def F34 : F := ⟨0, 2, [.cell 0 2 true],
 .seq (.reg [⟨(some 0), .alloc [(.int .i64 0), (.int .i64 0)], none, 0, 0, []⟩])
 (.seq (.reg [⟨(some 1), .build [(.int .i64 0), (.int .i64 0)] [(0, 1, (.k (.int .i64 1)))], none, 65536, 0, []⟩,
   ⟨none, .store 2 (.t 0) (.t 1), none, 65792, 1, []⟩])
 (.ret))⟩
/-- loop.example/g00849/impl.isClient -/
def F35 : F := ⟨1, 5, [.t 2],
 .seq (.reg [⟨(some 2), .mv (.k (.bool false)), none, 0, 0, []⟩])
 (.seq (.reg [⟨(some 3), .mv (.t 0), none, 65536, 0, []⟩,
   ⟨(some 4), .call 36 [(.t 3), (.k (.int .i64 100)), (.k (.int .i64 105))] true, none, 65792, 1, []⟩,
   ⟨(some 2), .mv (.t 4), none, 66048, 2, []⟩])
 (.ret))⟩
/-- loop.example/g00849/impl.between -/
def F36 : F := ⟨3, 15, [.t 6],
 .seq (.reg [⟨(some 6), .mv (.k (.bool false)), none, 0, 0, []⟩])
 (.seq (.reg [⟨(some 7), .mv (.t 0), none, 65536, 0, []⟩,
   ⟨(some 8), .mv (.t 1), none, 65792, 1, []⟩,
   ⟨(some 9), .bin .geq (.t 7) (.t 8), none, 66048, 2, []⟩,
   ⟨(some 10), .mv (.t 9), none, 66304, 3, []⟩,
   ⟨(some 11), .mv (.t 0), (some (some 10, true)), 66560, 4, []⟩,
   ⟨(some 12), .mv (.t 2), (some (some 10, true)), 66816, 5, []⟩,
   ⟨(some 13), .bin .leq (.t 11) (.t 12), (some (some 10, true)), 67072, 6, []⟩,
   ⟨(some 14), .pick (.t 10) (.t 13) (.k (.bool false)), none, 67328, 7, []⟩,
   ⟨(some 6), .mv (.t 14), none, 67584, 8, []⟩])
 (.ret))⟩
/-- loop.example/g00849/impl.pgOk -/
def F37 : F := ⟨1, 11, [.t 2],
 .seq (.reg [⟨(some 1), .box (.t 0), none, 0, 0, []⟩,
   ⟨(some 2), .mv (.k (.bool false)), none, 256, 1, []⟩])
 (.seq (.reg [⟨(some 3), .faddr 0 (.t 1), none, 65536, 0, []⟩,
   ⟨(some 4), .load 1 false (.t 3), none, 65792, 1, []⟩,
   ⟨(some 5), .call 36 [(.t 4), (.k (.int .i64 1)), (.k (.int .i64 4))] true, none, 66048, 2, []⟩,
   ⟨(some 6), .mv (.t 5), none, 66304, 3, []⟩,
   ⟨(some 7), .faddr 1 (.t 1), (some (some 6, true)), 66560, 4, []⟩,
   ⟨(some 8), .load 1 false (.t 7), (some (some 6, true)), 66816, 5, []⟩,
   ⟨(some 9), .call 36 [(.t 8), (.k (.int .i64 0)), (.k (.int .i64 15))] true, (some (some 6, true)), 67072, 6, []⟩,
   ⟨(some 10), .pick (.t 6) (.t 9) (.k (.bool false)), none, 67328, 7, []⟩,
   ⟨(some 2), .mv (.t 10), none, 67584, 8, []⟩])
 (.ret))⟩
/-- loop.example/g00849/impl.NameOk -/
def F38 : F := ⟨1, 31, [.t 2],
 .seq (.reg [⟨(some 2), .mv (.k (.bool false)), none, 0, 0, []⟩])
 (.seq (.seq (.reg [⟨(some 5), .mv (.t 0), none, 65536, 0, []⟩,
   ⟨(some 6), .len true (.t 5), none, 65792, 1, []⟩,
   ⟨(some 7), .mv (.k (.int .i64 0)), none, 66048, 2, []⟩])
 (.block 0 (.loop [0, 6, 7] []
  (.seq (.reg [⟨(some 8), .bin .lss (.t 7) (.t 6), none, 131072, 0, []⟩])
  (.seq (.cond (.t 8)
   (.skip)
   (.exit 0))
  (.seq (.block 1 (.seq (.reg [⟨(some 9), .mv (.t 7), none, 196608, 0, []⟩,
    ⟨(some 3), .mv (.t 9), none, 196864, 1, []⟩])
  (.seq (.reg [⟨(some 10), .mv (.t 0), none, 262144, 0, []⟩,
    ⟨(some 11), .mv (.t 3), none, 262400, 1, []⟩,
    ⟨(some 12), .idx (.t 10) (.t 11), none, 262656, 2, []⟩,
    ⟨(some 4), .mv (.t 12), none, 262912, 3, []⟩])
  (.seq (.reg [⟨(some 13), .mv (.t 4), none, 327680, 0, []⟩,
    ⟨(some 14), .bin .lss (.t 13) (.k (.int .u8 97)), none, 327936, 1, []⟩,
    ⟨(some 15), .mv (.t 14), none, 328192, 2, []⟩,
    ⟨(some 16), .mv (.t 4), (some (some 15, false)), 328448, 3, []⟩,
    ⟨(some 17), .bin .gtr (.t 16) (.k (.int .u8 122)), (some (some 15, false)), 328704, 4, []⟩,
    ⟨(some 18), .pick (.t 15) (.k (.bool true)) (.t 17), none, 328960, 5, []⟩,
    ⟨(some 19), .mv (.t 18), none, 329216, 6, []⟩,
    ⟨(some 20), .mv (.t 4), (some (some 19, true)), 329472, 7, []⟩,
    ⟨(some 21), .bin .lss (.t 20) (.k (.int .u8 48)), (some (some 19, true)), 329728, 8, []⟩,
    ⟨(some 22), .mv (.t 21), (some (some 19, true)), 329984, 9, []⟩,
    ⟨(some 23), .mv (.t 4), (some (some 22, false)), 330240, 10, []⟩,
    ⟨(some 24), .bin .gtr (.t 23) (.k (.int .u8 57)), (some (some 22, false)), 330496, 11, []⟩,
    ⟨(some 25), .pick (.t 22) (.k (.bool true)) (.t 24), (some (some 19, true)), 330752, 12, []⟩,
    ⟨(some 26), .pick (.t 19) (.t 25) (.k (.bool false)), none, 331008, 13, []⟩])
  (.cond (.t 26)
   (.seq (.reg [⟨(some 2), .mv (.k (.bool false)), none, 393216, 0, []⟩])
   (.ret))
   (.skip))))))
  (.reg [⟨(some 27), .bin .add (.t 7) (.k (.int .i64 1)), none, 458752, 0, []⟩,
    ⟨(some 7), .mv (.t 27), none, 459008, 1, []⟩])))))))
 (.seq (.reg [⟨(some 28), .mv (.t 0), none, 524288, 0, []⟩,
   ⟨(some 29), .len true (.t 28), none, 524544, 1, []⟩,
   ⟨(some 30), .call 36 [(.t 29), (.k (.int .i64 1)), (.k (.int .i64 8))] true, none, 524800, 2, []⟩,
   ⟨(some 2), .mv (.t 30), none, 525056, 3, []⟩])
 (.ret)))⟩
/-- loop.example/g00849/impl.OpOk -/
def F39 : F := ⟨2, 79, [.t 4],
 .seq (.reg [⟨(some 2), .box (.t 0), none, 0, 0, []⟩,
   ⟨(some 3), .box (.t 1), none, 256, 1, []⟩,
   ⟨(some 4), .mv (.k (.bool false)), none, 512, 2, []⟩])
 (.seq (.seq (.reg [⟨(some 5), .load 2 true (.t 2), none, 65536, 0, []⟩,
   ⟨(some 6), .call 55 [(.t 5)] true, none, 65792, 1, []⟩,
   ⟨(some 7), .not (.t 6), none, 66048, 2, []⟩])
 (.cond (.t 7)
  (.seq (.reg [⟨(some 4), .mv (.k (.bool false)), none, 131072, 0, []⟩])
  (.ret))
  (.skip)))
 (.seq (.seq (.reg [⟨(some 8), .faddr 0 (.t 3), none, 196608, 0, []⟩,
   ⟨(some 9), .load 1 false (.t 8), none, 196864, 1, []⟩])
 (.block 0 (.seq (.seq (.reg [⟨(some 11), .bin .eql (.t 9) (.k (.int .i64 1)), none, 262144, 0, []⟩,
   ⟨(some 10), .mv (.t 11), none, 262400, 1, []⟩])
 (.cond (.t 10)
  (.skip)
  (.reg [⟨(some 12), .bin .eql (.t 9) (.k (.int .i64 6)), none, 327680, 0, []⟩,
    ⟨(some 10), .mv (.t 12), none, 327936, 1, []⟩])))
 (.cond (.t 10)
  (.seq (.reg [⟨(some 13), .faddr 1 (.t 3), none, 393216, 0, []⟩,
    ⟨(some 14), .load 1 false (.t 13), none, 393472, 1, []⟩,
    ⟨(some 15), .bin .eql (.t 14) (.k (.int .i64 0)), none, 393728, 2, []⟩,
    ⟨(some 16), .mv (.t 15), none, 393984, 3, []⟩,
    ⟨(some 17), .faddr 2 (.t 3), (some (some 16, true)), 394240, 4, []⟩,
    ⟨(some 18), .load 1 false (.t 17), (some (some 16, true)), 394496, 5, []⟩,
    ⟨(some 19), .bin .eql (.t 18) (.k (.str ByteArray.empty)), (some (some 16, true)), 394752, 6, []⟩,
    ⟨(some 20), .pick (.t 16) (.t 19) (.k (.bool false)), none, 395008, 7, []⟩,
    ⟨(some 4), .mv (.t 20), none, 395264, 8, []⟩])
  (.ret))
  (.seq (.reg [⟨(some 22), .bin .eql (.t 9) (.k (.int .i64 2)), none, 458752, 0, []⟩,
    ⟨(some 21), .mv (.t 22), none, 459008, 1, []⟩])
  (.cond (.t 21)
   (.seq (.reg [⟨(some 23), .faddr 1 (.t 3), none, 524288, 0, []⟩,
     ⟨(some 24), .load 1 false (.t 23), none, 524544, 1, []⟩,
     ⟨(some 25), .bin .eql (.t 24) (.k (.int .i64 0)), none, 524800, 2, []⟩,
     ⟨(some 26), .mv (.t 25), none, 525056, 3, []⟩,
     ⟨(some 27), .faddr 2 (.t 3), (some (some 26, true)), 525312, 4, []⟩,
     ⟨(some 28), .load 1 false (.t 27), (some (some 26, true)), 525568, 5, []⟩,
     ⟨(some 29), .len true (.t 28), (some (some 26, true)), 525824, 6, []⟩,
     ⟨(some 30), .bin .leq (.t 29) (.k (.int .i64 64)), (some (some 26, true)), 526080, 7, []⟩,
     ⟨(some 31), .pick (.t 26) (.t 30) (.k (.bool false)), none, 526336, 8, []⟩,
     ⟨(some 4), .mv (.t 31), none, 526592, 9, []⟩])
   (.ret))
   (.seq (.reg [⟨(some 33), .bin .eql (.t 9) (.k (.int .i64 3)), none, 589824, 0, []⟩,
     ⟨(some 32), .mv (.t 33), none, 590080, 1, []⟩])
   (.cond (.t 32)
    (.seq (.reg [⟨(some 34), .faddr 0 (.t 2), none, 655360, 0, []⟩,
      ⟨(some 35), .load 1 false (.t 34), none, 655616, 1, []⟩,
      ⟨(some 36), .bin .eql (.t 35) (.k (.int .i64 1)), none, 655872, 2, []⟩,
      ⟨(some 37), .mv (.t 36), none, 656128, 3, []⟩,
      ⟨(some 38), .faddr 1 (.t 3), (some (some 37, true)), 656384, 4, []⟩,
      ⟨(some 39), .load 1 false (.t 38), (some (some 37, true)), 656640, 5, []⟩,
      ⟨(some 40), .call 36 [(.t 39), (.k (.int .i64 0)), (.k (.int .i64 64))] true, (some (some 37, true)), 656896, 6, []⟩,
      ⟨(some 41), .pick (.t 37) (.t 40) (.k (.bool false)), none, 657152, 7, []⟩,
      ⟨(some 42), .mv (.t 41), none, 657408, 8, []⟩,
      ⟨(some 43), .faddr 2 (.t 3), (some (some 42, true)), 657664, 9, []⟩,
      ⟨(some 44), .load 1 false (.t 43), (some (some 42, true)), 657920, 10, []⟩,
      ⟨(some 45), .len true (.t 44), (some (some 42, true)), 658176, 11, []⟩,
      ⟨(some 46), .bin .leq (.t 45) (.k (.int .i64 64)), (some (some 42, true)), 658432, 12, []⟩,
      ⟨(some 47), .pick (.t 42) (.t 46) (.k (.bool false)), none, 658688, 13, []⟩,
      ⟨(some 4), .mv (.t 47), none, 658944, 14, []⟩])
    (.ret))
    (.seq (.reg [⟨(some 49), .bin .eql (.t 9) (.k (.int .i64 4)), none, 720896, 0, []⟩,
      ⟨(some 48), .mv (.t 49), none, 721152, 1, []⟩])
    (.cond (.t 48)
     (.seq (.reg [⟨(some 50), .faddr 0 (.t 2), none, 786432, 0, []⟩,
       ⟨(some 51), .load 1 false (.t 50), none, 786688, 1, []⟩,
       ⟨(some 52), .bin .eql (.t 51) (.k (.int .i64 1)), none, 786944, 2, []⟩,
       ⟨(some 53), .mv (.t 52), none, 787200, 3, []⟩,
       ⟨(some 54), .faddr 1 (.t 3), (some (some 53, true)), 787456, 4, []⟩,
       ⟨(some 55), .load 1 false (.t 54), (some (some 53, true)), 787712, 5, []⟩,
       ⟨(some 56), .bin .eql (.t 55) (.k (.int .i64 0)), (some (some 53, true)), 787968, 6, []⟩,
       ⟨(some 57), .pick (.t 53) (.t 56) (.k (.bool false)), none, 788224, 7, []⟩,
       ⟨(some 58), .mv (.t 57), none, 788480, 8, []⟩,
       ⟨(some 59), .faddr 2 (.t 3), (some (some 58, true)), 788736, 9, []⟩,
       ⟨(some 60), .load 1 false (.t 59), (some (some 58, true)), 788992, 10, []⟩,
       ⟨(some 61), .len true (.t 60), (some (some 58, true)), 789248, 11, []⟩,
       ⟨(some 62), .bin .leq (.t 61) (.k (.int .i64 64)), (some (some 58, true)), 789504, 12, []⟩,
       ⟨(some 63), .pick (.t 58) (.t 62) (.k (.bool false)), none, 789760, 13, []⟩,
       ⟨(some 4), .mv (.t 63), none, 790016, 14, []⟩])
     (.ret))
     (.seq (.reg [⟨(some 65), .bin .eql (.t 9) (.k (.int .i64 5)), none, 851968, 0, []⟩,
       ⟨(some 64), .mv (.t 65), none, 852224, 1, []⟩])
     (.cond (.t 64)
      (.seq (.reg [⟨(some 66), .faddr 0 (.t 2), none, 917504, 0, []⟩,
        ⟨(some 67), .load 1 false (.t 66), none, 917760, 1, []⟩,
        ⟨(some 68), .bin .eql (.t 67) (.k (.int .i64 1)), none, 918016, 2, []⟩,
        ⟨(some 69), .mv (.t 68), none, 918272, 3, []⟩,
        ⟨(some 70), .faddr 1 (.t 3), (some (some 69, true)), 918528, 4, []⟩,
        ⟨(some 71), .load 1 false (.t 70), (some (some 69, true)), 918784, 5, []⟩,
        ⟨(some 72), .call 36 [(.t 71), (.k (.int .i64 0)), (.k (.int .i64 64))] true, (some (some 69, true)), 919040, 6, []⟩,
        ⟨(some 73), .pick (.t 69) (.t 72) (.k (.bool false)), none, 919296, 7, []⟩,
        ⟨(some 74), .mv (.t 73), none, 919552, 8, []⟩,
        ⟨(some 75), .faddr 2 (.t 3), (some (some 74, true)), 919808, 9, []⟩,
        ⟨(some 76), .load 1 false (.t 75), (some (some 74, true)), 920064, 10, []⟩,
        ⟨(some 77), .bin .eql (.t 76) (.k (.str ByteArray.empty)), (some (some 74, true)), 920320, 11, []⟩,
        ⟨(some 78), .pick (.t 74) (.t 77) (.k (.bool false)), none, 920576, 12, []⟩,
        ⟨(some 4), .mv (.t 78), none, 920832, 13, []⟩])
      (.ret))
      (.skip)))))))))))))
 (.seq (.reg [⟨(some 4), .mv (.k (.bool false)), none, 983040, 0, []⟩])
 (.ret))))⟩
/-- loop.example/g00849/impl.plainCode -/
def F40 : F := ⟨0, 2, [.cell 0 2 true],
 .seq (.reg [⟨(some 0), .alloc [(.int .i64 0), (.int .i64 0)], none, 0, 0, []⟩])
 (.seq (.reg [⟨(some 1), .build [(.int .i64 0), (.int .i64 0)] [(0, 1, (.k (.int .i64 1)))], none, 65536, 0, []⟩,
   ⟨none, .store 2 (.t 0) (.t 1), none, 65792, 1, []⟩])
 (.ret))⟩
/-- loop.example/g00849/laws.eqHeadS -/
def F41 : F := ⟨2, 27, [.t 4],
 .seq (.reg [⟨(some 4), .mv (.k (.bool false)), none, 0, 0, []⟩])
 (.seq (.seq (.reg [⟨(some 6), .mv (.t 0), none, 65536, 0, []⟩,
   ⟨(some 7), .len false (.t 6), none, 65792, 1, []⟩,
   ⟨(some 8), .mv (.t 1), none, 66048, 2, []⟩,
   ⟨(some 9), .len false (.t 8), none, 66304, 3, []⟩,
   ⟨(some 10), .bin .neq (.t 7) (.t 9), none, 66560, 4, []⟩])
 (.cond (.t 10)
  (.seq (.reg [⟨(some 4), .mv (.k (.bool false)), none, 131072, 0, []⟩])
  (.ret))
  (.skip)))
 (.seq (.seq (.reg [⟨(some 5), .mv (.k (.int .i64 0)), none, 196608, 0, []⟩])
 (.block 0 (.loop [0, 1, 5] []
  (.seq (.seq (.reg [⟨(some 11), .mv (.t 5), none, 262144, 0, []⟩,
    ⟨(some 12), .mv (.t 0), none, 262400, 1, []⟩,
    ⟨(some 13), .len false (.t 12), none, 262656, 2, []⟩,
    ⟨(some 14), .bin .lss (.t 11) (.t 13), none, 262912, 3, []⟩])
  (.cond (.t 14)
   (.skip)
   (.exit 0)))
  (.seq (.block 1 (.seq (.reg [⟨(some 17), .mv (.t 0), none, 393216, 0, []⟩,
    ⟨(some 18), .mv (.t 5), none, 393472, 1, []⟩,
    ⟨(some 19), .iaddr 5 (.t 17) (.t 18), none, 393728, 2, []⟩,
    ⟨(some 20), .load 5 true (.t 19), none, 393984, 3, []⟩,
    ⟨(some 21), .mv (.t 1), none, 394240, 4, []⟩,
    ⟨(some 22), .mv (.t 5), none, 394496, 5, []⟩,
    ⟨(some 23), .iaddr 5 (.t 21) (.t 22), none, 394752, 6, []⟩,
    ⟨(some 24), .load 5 true (.t 23), none, 395008, 7, []⟩,
    ⟨(some 25), .call 56 [(.t 20), (.t 24)] true, none, 395264, 8, []⟩,
    ⟨(some 26), .not (.t 25), none, 395520, 9, []⟩])
  (.cond (.t 26)
   (.seq (.reg [⟨(some 4), .mv (.k (.bool false)), none, 458752, 0, []⟩])
   (.ret))
   (.skip))))
  (.reg [⟨(some 15), .mv (.t 5), none, 327680, 0, []⟩,
    ⟨(some 16), .bin .add (.t 15) (.k (.int .i64 1)), none, 327936, 1, []⟩,
    ⟨(some 5), .mv (.t 16), none, 328192, 2, []⟩]))))))
 (.seq (.reg [⟨(some 4), .mv (.k (.bool true)), none, 524288, 0, []⟩])
 (.ret))))⟩
/-- loop.example/g00849/laws.eqLastS -/
def F42 : F := ⟨2, 27, [.t 4],
 .seq (.reg [⟨(some 4), .mv (.k (.bool false)), none, 0, 0, []⟩])
 (.seq (.seq (.reg [⟨(some 6), .mv (.t 0), none, 65536, 0, []⟩,
   ⟨(some 7), .len false (.t 6), none, 65792, 1, []⟩,
   ⟨(some 8), .mv (.t 1), none, 66048, 2, []⟩,
   ⟨(some 9), .len false (.t 8), none, 66304, 3, []⟩,
   ⟨(some 10), .bin .neq (.t 7) (.t 9), none, 66560, 4, []⟩])
 (.cond (.t 10)
  (.seq (.reg [⟨(some 4), .mv (.k (.bool false)), none, 131072, 0, []⟩])
  (.ret))
  (.skip)))
 (.seq (.seq (.reg [⟨(some 5), .mv (.k (.int .i64 0)), none, 196608, 0, []⟩])
 (.block 0 (.loop [0, 1, 5] []
  (.seq (.seq (.reg [⟨(some 11), .mv (.t 5), none, 262144, 0, []⟩,
    ⟨(some 12), .mv (.t 0), none, 262400, 1, []⟩,
    ⟨(some 13), .len false (.t 12), none, 262656, 2, []⟩,
    ⟨(some 14), .bin .lss (.t 11) (.t 13), none, 262912, 3, []⟩])
  (.cond (.t 14)
   (.skip)
   (.exit 0)))
  (.seq (.block 1 (.seq (.reg [⟨(some 17), .mv (.t 0), none, 393216, 0, []⟩,
    ⟨(some 18), .mv (.t 5), none, 393472, 1, []⟩,
    ⟨(some 19), .iaddr 4 (.t 17) (.t 18), none, 393728, 2, []⟩,
    ⟨(some 20), .load 4 true (.t 19), none, 393984, 3, []⟩,
    ⟨(some 21), .mv (.t 1), none, 394240, 4, []⟩,
    ⟨(some 22), .mv (.t 5), none, 394496, 5, []⟩,
    ⟨(some 23), .iaddr 4 (.t 21) (.t 22), none, 394752, 6, []⟩,
    ⟨(some 24), .load 4 true (.t 23), none, 395008, 7, []⟩,
    ⟨(some 25), .call 57 [(.t 20), (.t 24)] true, none, 395264, 8, []⟩,
    ⟨(some 26), .not (.t 25), none, 395520, 9, []⟩])
  (.cond (.t 26)
   (.seq (.reg [⟨(some 4), .mv (.k (.bool false)), none, 458752, 0, []⟩])
   (.ret))
   (.skip))))
  (.reg [⟨(some 15), .mv (.t 5), none, 327680, 0, []⟩,
    ⟨(some 16), .bin .add (.t 15) (.k (.int .i64 1)), none, 327936, 1, []⟩,
    ⟨(some 5), .mv (.t 16), none, 328192, 2, []⟩]))))))
 (.seq (.reg [⟨(some 4), .mv (.k (.bool true)), none, 524288, 0, []⟩])
 (.ret))))⟩
/-- loop.example/g00849/laws.eqEntryS -/
def F43 : F := ⟨2, 27, [.t 4],
 .seq (.reg [⟨(some 4), .mv (.k (.bool false)), none, 0, 0, []⟩])
 (.seq (.seq (.reg [⟨(some 6), .mv (.t 0), none, 65536, 0, []⟩,
   ⟨(some 7), .len false (.t 6), none, 65792, 1, []⟩,
   ⟨(some 8), .mv (.t 1), none, 66048, 2, []⟩,
   ⟨(some 9), .len false (.t 8), none, 66304, 3, []⟩,
   ⟨(some 10), .bin .neq (.t 7) (.t 9), none, 66560, 4, []⟩])
 (.cond (.t 10)
  (.seq (.reg [⟨(some 4), .mv (.k (.bool false)), none, 131072, 0, []⟩])
  (.ret))
  (.skip)))
 (.seq (.seq (.reg [⟨(some 5), .mv (.k (.int .i64 0)), none, 196608, 0, []⟩])
 (.block 0 (.loop [0, 1, 5] []
  (.seq (.seq (.reg [⟨(some 11), .mv (.t 5), none, 262144, 0, []⟩,
    ⟨(some 12), .mv (.t 0), none, 262400, 1, []⟩,
    ⟨(some 13), .len false (.t 12), none, 262656, 2, []⟩,
    ⟨(some 14), .bin .lss (.t 11) (.t 13), none, 262912, 3, []⟩])
  (.cond (.t 14)
   (.skip)
   (.exit 0)))
  (.seq (.block 1 (.seq (.reg [⟨(some 17), .mv (.t 0), none, 393216, 0, []⟩,
    ⟨(some 18), .mv (.t 5), none, 393472, 1, []⟩,
    ⟨(some 19), .iaddr 10 (.t 17) (.t 18), none, 393728, 2, []⟩,
    ⟨(some 20), .load 10 true (.t 19), none, 393984, 3, []⟩,
    ⟨(some 21), .mv (.t 1), none, 394240, 4, []⟩,
    ⟨(some 22), .mv (.t 5), none, 394496, 5, []⟩,
    ⟨(some 23), .iaddr 10 (.t 21) (.t 22), none, 394752, 6, []⟩,
    ⟨(some 24), .load 10 true (.t 23), none, 395008, 7, []⟩,
    ⟨(some 25), .call 24 [(.t 20), (.t 24)] true, none, 395264, 8, []⟩,
    ⟨(some 26), .not (.t 25), none, 395520, 9, []⟩])
  (.cond (.t 26)
   (.seq (.reg [⟨(some 4), .mv (.k (.bool false)), none, 458752, 0, []⟩])
   (.ret))
   (.skip))))
  (.reg [⟨(some 15), .mv (.t 5), none, 327680, 0, []⟩,
    ⟨(some 16), .bin .add (.t 15) (.k (.int .i64 1)), none, 327936, 1, []⟩,
    ⟨(some 5), .mv (.t 16), none, 328192, 2, []⟩]))))))
 (.seq (.reg [⟨(some 4), .mv (.k (.bool true)), none, 524288, 0, []⟩])
 (.ret))))⟩
/-- loop.example/g00849/laws.eqChunkS -/
def F44 : F := ⟨2, 27, [.t 4],
 .seq (.reg [⟨(some 4), .mv (.k (.bool false)), none, 0, 0, []⟩])
 (.seq (.seq (.reg [⟨(some 6), .mv (.t 0), none, 65536, 0, []⟩,
   ⟨(some 7), .len false (.t 6), none, 65792, 1, []⟩,
   ⟨(some 8), .mv (.t 1), none, 66048, 2, []⟩,
   ⟨(some 9), .len false (.t 8), none, 66304, 3, []⟩,
   ⟨(some 10), .bin .neq (.t 7) (.t 9), none, 66560, 4, []⟩])
 (.cond (.t 10)
  (.seq (.reg [⟨(some 4), .mv (.k (.bool false)), none, 131072, 0, []⟩])
  (.ret))
  (.skip)))
 (.seq (.seq (.reg [⟨(some 5), .mv (.k (.int .i64 0)), none, 196608, 0, []⟩])
 (.block 0 (.loop [0, 1, 5] []
  (.seq (.seq (.reg [⟨(some 11), .mv (.t 5), none, 262144, 0, []⟩,
    ⟨(some 12), .mv (.t 0), none, 262400, 1, []⟩,
    ⟨(some 13), .len false (.t 12), none, 262656, 2, []⟩,
    ⟨(some 14), .bin .lss (.t 11) (.t 13), none, 262912, 3, []⟩])
  (.cond (.t 14)
   (.skip)
   (.exit 0)))
  (.seq (.block 1 (.seq (.reg [⟨(some 17), .mv (.t 0), none, 393216, 0, []⟩,
    ⟨(some 18), .mv (.t 5), none, 393472, 1, []⟩,
    ⟨(some 19), .iaddr 6 (.t 17) (.t 18), none, 393728, 2, []⟩,
    ⟨(some 20), .load 6 true (.t 19), none, 393984, 3, []⟩,
    ⟨(some 21), .mv (.t 1), none, 394240, 4, []⟩,
    ⟨(some 22), .mv (.t 5), none, 394496, 5, []⟩,
    ⟨(some 23), .iaddr 6 (.t 21) (.t 22), none, 394752, 6, []⟩,
    ⟨(some 24), .load 6 true (.t 23), none, 395008, 7, []⟩,
    ⟨(some 25), .call 25 [(.t 20), (.t 24)] true, none, 395264, 8, []⟩,
    ⟨(some 26), .not (.t 25), none, 395520, 9, []⟩])
  (.cond (.t 26)
   (.seq (.reg [⟨(some 4), .mv (.k (.bool false)), none, 458752, 0, []⟩])
   (.ret))
   (.skip))))
  (.reg [⟨(some 15), .mv (.t 5), none, 327680, 0, []⟩,
    ⟨(some 16), .bin .add (.t 15) (.k (.int .i64 1)), none, 327936, 1, []⟩,
    ⟨(some 5), .mv (.t 16), none, 328192, 2, []⟩]))))))
 (.seq (.reg [⟨(some 4), .mv (.k (.bool true)), none, 524288, 0, []⟩])
 (.ret))))⟩
/-- loop.example/g00849/laws.markHeadS -/
def F45 : F := ⟨2, 51, [.t 4],
 .seq (.reg [⟨(some 4), .mv (.k (.int .i64 0)), none, 0, 0, []⟩])
 (.seq (.seq (.reg [⟨(some 5), .mv (.k (.int .i64 0)), none, 65536, 0, []⟩])
 (.block 0 (.loop [0, 1, 5] []
  (.seq (.seq (.reg [⟨(some 6), .mv (.t 5), none, 131072, 0, []⟩,
    ⟨(some 7), .mv (.t 0), none, 131328, 1, []⟩,
    ⟨(some 8), .len false (.t 7), none, 131584, 2, []⟩,
    ⟨(some 9), .bin .lss (.t 6) (.t 8), none, 131840, 3, []⟩])
  (.cond (.t 9)
   (.skip)
   (.exit 0)))
  (.seq (.block 1 (.seq (.reg [⟨(some 12), .mv (.t 0), none, 262144, 0, []⟩,
    ⟨(some 13), .mv (.t 5), none, 262400, 1, []⟩,
    ⟨(some 14), .mv (.t 1), none, 262656, 2, []⟩,
    ⟨(some 15), .call 58 [(.t 14)] true, none, 262912, 3, []⟩,
    ⟨(some 16), .iaddr 5 (.t 12) (.t 13), none, 263168, 4, []⟩,
    ⟨(some 17), .faddr 0 (.t 16), none, 263424, 5, []⟩,
    ⟨none, .store 1 (.t 17) (.t 15), none, 263680, 6, []⟩])
  (.seq (.reg [⟨(some 18), .mv (.t 1), none, 327680, 0, []⟩,
    ⟨(some 19), .bin .add (.t 18) (.k (.int .i64 1)), none, 327936, 1, []⟩,
    ⟨(some 1), .mv (.t 19), none, 328192, 2, []⟩])
  (.seq (.reg [⟨(some 20), .mv (.t 0), none, 393216, 0, []⟩,
    ⟨(some 21), .mv (.t 5), none, 393472, 1, []⟩,
    ⟨(some 22), .mv (.t 1), none, 393728, 2, []⟩,
    ⟨(some 23), .iaddr 5 (.t 20) (.t 21), none, 393984, 3, []⟩,
    ⟨(some 24), .faddr 1 (.t 23), none, 394240, 4, []⟩,
    ⟨(some 25), .faddr 0 (.t 24), none, 394496, 5, []⟩,
    ⟨none, .store 1 (.t 25) (.t 22), none, 394752, 6, []⟩])
  (.seq (.reg [⟨(some 26), .mv (.t 1), none, 458752, 0, []⟩,
    ⟨(some 27), .bin .add (.t 26) (.k (.int .i64 1)), none, 459008, 1, []⟩,
    ⟨(some 1), .mv (.t 27), none, 459264, 2, []⟩])
  (.seq (.reg [⟨(some 28), .mv (.t 0), none, 524288, 0, []⟩,
    ⟨(some 29), .mv (.t 5), none, 524544, 1, []⟩,
    ⟨(some 30), .mv (.t 1), none, 524800, 2, []⟩,
    ⟨(some 31), .iaddr 5 (.t 28) (.t 29), none, 525056, 3, []⟩,
    ⟨(some 32), .faddr 1 (.t 31), none, 525312, 4, []⟩,
    ⟨(some 33), .faddr 1 (.t 32), none, 525568, 5, []⟩,
    ⟨none, .store 1 (.t 33) (.t 30), none, 525824, 6, []⟩])
  (.seq (.reg [⟨(some 34), .mv (.t 1), none, 589824, 0, []⟩,
    ⟨(some 35), .bin .add (.t 34) (.k (.int .i64 1)), none, 590080, 1, []⟩,
    ⟨(some 1), .mv (.t 35), none, 590336, 2, []⟩])
  (.seq (.reg [⟨(some 36), .mv (.t 0), none, 655360, 0, []⟩,
    ⟨(some 37), .mv (.t 5), none, 655616, 1, []⟩,
    ⟨(some 38), .mv (.t 1), none, 655872, 2, []⟩,
    ⟨(some 39), .iaddr 5 (.t 36) (.t 37), none, 656128, 3, []⟩,
    ⟨(some 40), .faddr 3 (.t 39), none, 656384, 4, []⟩,
    ⟨none, .store 1 (.t 40) (.t 38), none, 656640, 5, []⟩])
  (.seq (.reg [⟨(some 41), .mv (.t 1), none, 720896, 0, []⟩,
    ⟨(some 42), .bin .add (.t 41) (.k (.int .i64 1)), none, 721152, 1, []⟩,
    ⟨(some 1), .mv (.t 42), none, 721408, 2, []⟩])
  (.seq (.reg [⟨(some 43), .mv (.t 0), none, 786432, 0, []⟩,
    ⟨(some 44), .mv (.t 5), none, 786688, 1, []⟩,
    ⟨(some 45), .mv (.t 1), none, 786944, 2, []⟩,
    ⟨(some 46), .iaddr 5 (.t 43) (.t 44), none, 787200, 3, []⟩,
    ⟨(some 47), .faddr 4 (.t 46), none, 787456, 4, []⟩,
    ⟨none, .store 1 (.t 47) (.t 45), none, 787712, 5, []⟩])
  (.reg [⟨(some 48), .mv (.t 1), none, 851968, 0, []⟩,
    ⟨(some 49), .bin .add (.t 48) (.k (.int .i64 1)), none, 852224, 1, []⟩,
    ⟨(some 1), .mv (.t 49), none, 852480, 2, []⟩])))))))))))
  (.reg [⟨(some 10), .mv (.t 5), none, 196608, 0, []⟩,
    ⟨(some 11), .bin .add (.t 10) (.k (.int .i64 1)), none, 196864, 1, []⟩,
    ⟨(some 5), .mv (.t 11), none, 197120, 2, []⟩]))))))
 (.seq (.reg [⟨(some 50), .mv (.t 1), none, 917504, 0, []⟩,
   ⟨(some 4), .mv (.t 50), none, 917760, 1, []⟩])
 (.ret)))⟩
/-- loop.example/g00849/laws.markLastS -/
def F46 : F := ⟨2, 43, [.t 4],
 .seq (.reg [⟨(some 4), .mv (.k (.int .i64 0)), none, 0, 0, []⟩])
 (.seq (.seq (.reg [⟨(some 5), .mv (.k (.int .i64 0)), none, 65536, 0, []⟩])
 (.block 0 (.loop [0, 1, 5] []
  (.seq (.seq (.reg [⟨(some 6), .mv (.t 5), none, 131072, 0, []⟩,
    ⟨(some 7), .mv (.t 0), none, 131328, 1, []⟩,
    ⟨(some 8), .len false (.t 7), none, 131584, 2, []⟩,
    ⟨(some 9), .bin .lss (.t 6) (.t 8), none, 131840, 3, []⟩])
  (.cond (.t 9)
   (.skip)
   (.exit 0)))
  (.seq (.block 1 (.seq (.reg [⟨(some 12), .mv (.t 0), none, 262144, 0, []⟩,
    ⟨(some 13), .mv (.t 5), none, 262400, 1, []⟩,
    ⟨(some 14), .mv (.t 1), none, 262656, 2, []⟩,
    ⟨(some 15), .iaddr 4 (.t 12) (.t 13), none, 262912, 3, []⟩,
    ⟨(some 16), .faddr 0 (.t 15), none, 263168, 4, []⟩,
    ⟨none, .store 1 (.t 16) (.t 14), none, 263424, 5, []⟩])
  (.seq (.reg [⟨(some 17), .mv (.t 1), none, 327680, 0, []⟩,
    ⟨(some 18), .bin .add (.t 17) (.k (.int .i64 1)), none, 327936, 1, []⟩,
    ⟨(some 1), .mv (.t 18), none, 328192, 2, []⟩])
  (.seq (.reg [⟨(some 19), .mv (.t 0), none, 393216, 0, []⟩,
    ⟨(some 20), .mv (.t 5), none, 393472, 1, []⟩,
    ⟨(some 21), .mv (.t 1), none, 393728, 2, []⟩,
    ⟨(some 22), .iaddr 4 (.t 19) (.t 20), none, 393984, 3, []⟩,
    ⟨(some 23), .faddr 1 (.t 22), none, 394240, 4, []⟩,
    ⟨none, .store 1 (.t 23) (.t 21), none, 394496, 5, []⟩])
  (.seq (.reg [⟨(some 24), .mv (.t 1), none, 458752, 0, []⟩,
    ⟨(some 25), .bin .add (.t 24) (.k (.int .i64 1)), none, 459008, 1, []⟩,
    ⟨(some 1), .mv (.t 25), none, 459264, 2, []⟩])
  (.seq (.reg [⟨(some 26), .mv (.t 0), none, 524288, 0, []⟩,
    ⟨(some 27), .mv (.t 5), none, 524544, 1, []⟩,
    ⟨(some 28), .mv (.t 1), none, 524800, 2, []⟩,
    ⟨(some 29), .iaddr 4 (.t 26) (.t 27), none, 525056, 3, []⟩,
    ⟨(some 30), .faddr 2 (.t 29), none, 525312, 4, []⟩,
    ⟨(some 31), .faddr 0 (.t 30), none, 525568, 5, []⟩,
    ⟨none, .store 1 (.t 31) (.t 28), none, 525824, 6, []⟩])
  (.seq (.reg [⟨(some 32), .mv (.t 1), none, 589824, 0, []⟩,
    ⟨(some 33), .bin .add (.t 32) (.k (.int .i64 1)), none, 590080, 1, []⟩,
    ⟨(some 1), .mv (.t 33), none, 590336, 2, []⟩])
  (.seq (.reg [⟨(some 34), .mv (.t 0), none, 655360, 0, []⟩,
    ⟨(some 35), .mv (.t 5), none, 655616, 1, []⟩,
    ⟨(some 36), .mv (.t 1), none, 655872, 2, []⟩,
    ⟨(some 37), .iaddr 4 (.t 34) (.t 35), none, 656128, 3, []⟩,
    ⟨(some 38), .faddr 2 (.t 37), none, 656384, 4, []⟩,
    ⟨(some 39), .faddr 1 (.t 38), none, 656640, 5, []⟩,
    ⟨none, .store 1 (.t 39) (.t 36), none, 656896, 6, []⟩])
  (.reg [⟨(some 40), .mv (.t 1), none, 720896, 0, []⟩,
    ⟨(some 41), .bin .add (.t 40) (.k (.int .i64 1)), none, 721152, 1, []⟩,
    ⟨(some 1), .mv (.t 41), none, 721408, 2, []⟩])))))))))
  (.reg [⟨(some 10), .mv (.t 5), none, 196608, 0, []⟩,
    ⟨(some 11), .bin .add (.t 10) (.k (.int .i64 1)), none, 196864, 1, []⟩,
    ⟨(some 5), .mv (.t 11), none, 197120, 2, []⟩]))))))
 (.seq (.reg [⟨(some 42), .mv (.t 1), none, 786432, 0, []⟩,
   ⟨(some 4), .mv (.t 42), none, 786688, 1, []⟩])
 (.ret)))⟩
/-- loop.example/g00849/laws.markEntryS -/
def F47 : F := ⟨2, 92, [.t 4],
 .seq (.reg [⟨(some 4), .mv (.k (.int .i64 0)), none, 0, 0, []⟩])
 (.seq (.seq (.reg [⟨(some 5), .mv (.k (.int .i64 0)), none, 65536, 0, []⟩])
 (.block 0 (.loop [0, 1, 5] []
  (.seq (.seq (.reg [⟨(some 6), .mv (.t 5), none, 131072, 0, []⟩,
    ⟨(some 7), .mv (.t 0), none, 131328, 1, []⟩,
    ⟨(some 8), .len false (.t 7), none, 131584, 2, []⟩,
    ⟨(some 9), .bin .lss (.t 6) (.t 8), none, 131840, 3, []⟩])
  (.cond (.t 9)
   (.skip)
   (.exit 0)))
  (.seq (.block 1 (.seq (.reg [⟨(some 12), .mv (.t 0), none, 262144, 0, []⟩,
    ⟨(some 13), .mv (.t 5), none, 262400, 1, []⟩,
    ⟨(some 14), .mv (.t 1), none, 262656, 2, []⟩,
    ⟨(some 15), .iaddr 10 (.t 12) (.t 13), none, 262912, 3, []⟩,
    ⟨(some 16), .faddr 0 (.t 15), none, 263168, 4, []⟩,
    ⟨(some 17), .faddr 0 (.t 16), none, 263424, 5, []⟩,
    ⟨none, .store 1 (.t 17) (.t 14), none, 263680, 6, []⟩])
  (.seq (.reg [⟨(some 18), .mv (.t 1), none, 327680, 0, []⟩,
    ⟨(some 19), .bin .add (.t 18) (.k (.int .i64 1)), none, 327936, 1, []⟩,
    ⟨(some 1), .mv (.t 19), none, 328192, 2, []⟩])
  (.seq (.reg [⟨(some 20), .mv (.t 0), none, 393216, 0, []⟩,
    ⟨(some 21), .mv (.t 5), none, 393472, 1, []⟩,
    ⟨(some 22), .mv (.t 1), none, 393728, 2, []⟩,
    ⟨(some 23), .iaddr 10 (.t 20) (.t 21), none, 393984, 3, []⟩,
    ⟨(some 24), .faddr 0 (.t 23), none, 394240, 4, []⟩,
    ⟨(some 25), .faddr 1 (.t 24), none, 394496, 5, []⟩,
    ⟨none, .store 1 (.t 25) (.t 22), none, 394752, 6, []⟩])
  (.seq (.reg [⟨(some 26), .mv (.t 1), none, 458752, 0, []⟩,
    ⟨(some 27), .bin .add (.t 26) (.k (.int .i64 1)), none, 459008, 1, []⟩,
    ⟨(some 1), .mv (.t 27), none, 459264, 2, []⟩])
  (.seq (.reg [⟨(some 28), .mv (.t 0), none, 524288, 0, []⟩,
    ⟨(some 29), .mv (.t 5), none, 524544, 1, []⟩,
    ⟨(some 30), .mv (.t 1), none, 524800, 2, []⟩,
    ⟨(some 31), .iaddr 10 (.t 28) (.t 29), none, 525056, 3, []⟩,
    ⟨(some 32), .faddr 2 (.t 31), none, 525312, 4, []⟩,
    ⟨(some 33), .faddr 0 (.t 32), none, 525568, 5, []⟩,
    ⟨none, .store 1 (.t 33) (.t 30), none, 525824, 6, []⟩])
  (.seq (.reg [⟨(some 34), .mv (.t 1), none, 589824, 0, []⟩,
    ⟨(some 35), .bin .add (.t 34) (.k (.int .i64 1)), none, 590080, 1, []⟩,
    ⟨(some 1), .mv (.t 35), none, 590336, 2, []⟩])
  (.seq (.reg [⟨(some 36), .mv (.t 0), none, 655360, 0, []⟩,
    ⟨(some 37), .mv (.t 5), none, 655616, 1, []⟩,
    ⟨(some 38), .mv (.t 1), none, 655872, 2, []⟩,
    ⟨(some 39), .iaddr 10 (.t 36) (.t 37), none, 656128, 3, []⟩,
    ⟨(some 40), .faddr 2 (.t 39), none, 656384, 4, []⟩,
    ⟨(some 41), .faddr 1 (.t 40), none, 656640, 5, []⟩,
    ⟨none, .store 1 (.t 41) (.t 38), none, 656896, 6, []⟩])
  (.seq (.reg [⟨(some 42), .mv (.t 1), none, 720896, 0, []⟩,
    ⟨(some 43), .bin .add (.t 42) (.k (.int .i64 1)), none, 721152, 1, []⟩,
    ⟨(some 1), .mv (.t 43), none, 721408, 2, []⟩])
  (.seq (.reg [⟨(some 44), .mv (.t 0), none, 786432, 0, []⟩,
    ⟨(some 45), .mv (.t 5), none, 786688, 1, []⟩,
    ⟨(some 46), .mv (.t 1), none, 786944, 2, []⟩,
    ⟨(some 47), .call 58 [(.t 46)] true, none, 787200, 3, []⟩,
    ⟨(some 48), .iaddr 10 (.t 44) (.t 45), none, 787456, 4, []⟩,
    ⟨(some 49), .faddr 4 (.t 48), none, 787712, 5, []⟩,
    ⟨none, .store 1 (.t 49) (.t 47), none, 787968, 6, []⟩])
  (.seq (.reg [⟨(some 50), .mv (.t 1), none, 851968, 0, []⟩,
    ⟨(some 51), .bin .add (.t 50) (.k (.int .i64 1)), none, 852224, 1, []⟩,
    ⟨(some 1), .mv (.t 51), none, 852480, 2, []⟩])
  (.seq (.reg [⟨(some 52), .mv (.t 0), none, 917504, 0, []⟩,
    ⟨(some 53), .mv (.t 5), none, 917760, 1, []⟩,
    ⟨(some 54), .mv (.t 1), none, 918016, 2, []⟩,
    ⟨(some 55), .bin .rem (.t 54) (.k (.int .i64 3)), none, 918272, 3, []⟩,
    ⟨(some 56), .bin .eql (.t 55) (.k (.int .i64 0)), none, 918528, 4, []⟩,
    ⟨(some 57), .iaddr 10 (.t 52) (.t 53), none, 918784, 5, []⟩,
    ⟨(some 58), .faddr 5 (.t 57), none, 919040, 6, []⟩,
    ⟨none, .store 1 (.t 58) (.t 56), none, 919296, 7, []⟩])
  (.seq (.reg [⟨(some 59), .mv (.t 1), none, 983040, 0, []⟩,
    ⟨(some 60), .bin .add (.t 59) (.k (.int .i64 1)), none, 983296, 1, []⟩,
    ⟨(some 1), .mv (.t 60), none, 983552, 2, []⟩])
  (.seq (.reg [⟨(some 61), .mv (.t 0), none, 1048576, 0, []⟩,
    ⟨(some 62), .mv (.t 5), none, 1048832, 1, []⟩,
    ⟨(some 63), .mv (.t 1), none, 1049088, 2, []⟩,
    ⟨(some 64), .iaddr 10 (.t 61) (.t 62), none, 1049344, 3, []⟩,
    ⟨(some 65), .faddr 6 (.t 64), none, 1049600, 4, []⟩,
    ⟨none, .store 1 (.t 65) (.t 63), none, 1049856, 5, []⟩])
  (.seq (.reg [⟨(some 66), .mv (.t 1), none, 1114112, 0, []⟩,
    ⟨(some 67), .bin .add (.t 66) (.k (.int .i64 1)), none, 1114368, 1, []⟩,
    ⟨(some 1), .mv (.t 67), none, 1114624, 2, []⟩])
  (.seq (.reg [⟨(some 68), .mv (.t 0), none, 1179648, 0, []⟩,
    ⟨(some 69), .mv (.t 5), none, 1179904, 1, []⟩,
    ⟨(some 70), .mv (.t 1), none, 1180160, 2, []⟩,
    ⟨(some 71), .iaddr 10 (.t 68) (.t 69), none, 1180416, 3, []⟩,
    ⟨(some 72), .faddr 7 (.t 71), none, 1180672, 4, []⟩,
    ⟨none, .store 1 (.t 72) (.t 70), none, 1180928, 5, []⟩])
  (.seq (.reg [⟨(some 73), .mv (.t 1), none, 1245184, 0, []⟩,
    ⟨(some 74), .bin .add (.t 73) (.k (.int .i64 1)), none, 1245440, 1, []⟩,
    ⟨(some 1), .mv (.t 74), none, 1245696, 2, []⟩])
  (.seq (.reg [⟨(some 75), .mv (.t 0), none, 1310720, 0, []⟩,
    ⟨(some 76), .mv (.t 5), none, 1310976, 1, []⟩,
    ⟨(some 77), .mv (.t 1), none, 1311232, 2, []⟩,
    ⟨(some 78), .iaddr 10 (.t 75) (.t 76), none, 1311488, 3, []⟩,
    ⟨(some 79), .faddr 8 (.t 78), none, 1311744, 4, []⟩,
    ⟨(some 80), .faddr 0 (.t 79), none, 1312000, 5, []⟩,
    ⟨none, .store 1 (.t 80) (.t 77), none, 1312256, 6, []⟩])
  (.seq (.reg [⟨(some 81), .mv (.t 1), none, 1376256, 0, []⟩,
    ⟨(some 82), .bin .add (.t 81) (.k (.int .i64 1)), none, 1376512, 1, []⟩,
    ⟨(some 1), .mv (.t 82), none, 1376768, 2, []⟩])
  (.seq (.reg [⟨(some 83), .mv (.t 0), none, 1441792, 0, []⟩,
    ⟨(some 84), .mv (.t 5), none, 1442048, 1, []⟩,
    ⟨(some 85), .mv (.t 1), none, 1442304, 2, []⟩,
    ⟨(some 86), .iaddr 10 (.t 83) (.t 84), none, 1442560, 3, []⟩,
    ⟨(some 87), .faddr 8 (.t 86), none, 1442816, 4, []⟩,
    ⟨(some 88), .faddr 1 (.t 87), none, 1443072, 5, []⟩,
    ⟨none, .store 1 (.t 88) (.t 85), none, 1443328, 6, []⟩])
  (.reg [⟨(some 89), .mv (.t 1), none, 1507328, 0, []⟩,
    ⟨(some 90), .bin .add (.t 89) (.k (.int .i64 1)), none, 1507584, 1, []⟩,
    ⟨(some 1), .mv (.t 90), none, 1507840, 2, []⟩])))))))))))))))))))))
  (.reg [⟨(some 10), .mv (.t 5), none, 196608, 0, []⟩,
    ⟨(some 11), .bin .add (.t 10) (.k (.int .i64 1)), none, 196864, 1, []⟩,
    ⟨(some 5), .mv (.t 11), none, 197120, 2, []⟩]))))))
 (.seq (.reg [⟨(some 91), .mv (.t 1), none, 1572864, 0, []⟩,
   ⟨(some 4), .mv (.t 91), none, 1573120, 1, []⟩])
 (.ret)))⟩
/-- loop.example/g00849/laws.markChunkS -/
def F48 : F := ⟨2, 59, [.t 4],
 .seq (.reg [⟨(some 4), .mv (.k (.int .i64 0)), none, 0, 0, []⟩])
 (.seq (.seq (.reg [⟨(some 5), .mv (.k (.int .i64 0)), none, 65536, 0, []⟩])
 (.block 0 (.loop [0, 1, 5] []
  (.seq (.seq (.reg [⟨(some 6), .mv (.t 5), none, 131072, 0, []⟩,
    ⟨(some 7), .mv (.t 0), none, 131328, 1, []⟩,
    ⟨(some 8), .len false (.t 7), none, 131584, 2, []⟩,
    ⟨(some 9), .bin .lss (.t 6) (.t 8), none, 131840, 3, []⟩])
  (.cond (.t 9)
   (.skip)
   (.exit 0)))
  (.seq (.block 1 (.seq (.reg [⟨(some 12), .mv (.t 0), none, 262144, 0, []⟩,
    ⟨(some 13), .mv (.t 5), none, 262400, 1, []⟩,
    ⟨(some 14), .mv (.t 1), none, 262656, 2, []⟩,
    ⟨(some 15), .call 58 [(.t 14)] true, none, 262912, 3, []⟩,
    ⟨(some 16), .iaddr 6 (.t 12) (.t 13), none, 263168, 4, []⟩,
    ⟨(some 17), .faddr 0 (.t 16), none, 263424, 5, []⟩,
    ⟨none, .store 1 (.t 17) (.t 15), none, 263680, 6, []⟩])
  (.seq (.reg [⟨(some 18), .mv (.t 1), none, 327680, 0, []⟩,
    ⟨(some 19), .bin .add (.t 18) (.k (.int .i64 1)), none, 327936, 1, []⟩,
    ⟨(some 1), .mv (.t 19), none, 328192, 2, []⟩])
  (.seq (.reg [⟨(some 20), .mv (.t 0), none, 393216, 0, []⟩,
    ⟨(some 21), .mv (.t 5), none, 393472, 1, []⟩,
    ⟨(some 22), .mv (.t 1), none, 393728, 2, []⟩,
    ⟨(some 23), .iaddr 6 (.t 20) (.t 21), none, 393984, 3, []⟩,
    ⟨(some 24), .faddr 1 (.t 23), none, 394240, 4, []⟩,
    ⟨(some 25), .faddr 0 (.t 24), none, 394496, 5, []⟩,
    ⟨none, .store 1 (.t 25) (.t 22), none, 394752, 6, []⟩])
  (.seq (.reg [⟨(some 26), .mv (.t 1), none, 458752, 0, []⟩,
    ⟨(some 27), .bin .add (.t 26) (.k (.int .i64 1)), none, 459008, 1, []⟩,
    ⟨(some 1), .mv (.t 27), none, 459264, 2, []⟩])
  (.seq (.reg [⟨(some 28), .mv (.t 0), none, 524288, 0, []⟩,
    ⟨(some 29), .mv (.t 5), none, 524544, 1, []⟩,
    ⟨(some 30), .mv (.t 1), none, 524800, 2, []⟩,
    ⟨(some 31), .iaddr 6 (.t 28) (.t 29), none, 525056, 3, []⟩,
    ⟨(some 32), .faddr 1 (.t 31), none, 525312, 4, []⟩,
    ⟨(some 33), .faddr 1 (.t 32), none, 525568, 5, []⟩,
    ⟨none, .store 1 (.t 33) (.t 30), none, 525824, 6, []⟩])
  (.seq (.reg [⟨(some 34), .mv (.t 1), none, 589824, 0, []⟩,
    ⟨(some 35), .bin .add (.t 34) (.k (.int .i64 1)), none, 590080, 1, []⟩,
    ⟨(some 1), .mv (.t 35), none, 590336, 2, []⟩])
  (.seq (.reg [⟨(some 36), .mv (.t 0), none, 655360, 0, []⟩,
    ⟨(some 37), .mv (.t 5), none, 655616, 1, []⟩,
    ⟨(some 38), .mv (.t 1), none, 655872, 2, []⟩,
    ⟨(some 39), .iaddr 6 (.t 36) (.t 37), none, 656128, 3, []⟩,
    ⟨(some 40), .faddr 3 (.t 39), none, 656384, 4, []⟩,
    ⟨none, .store 1 (.t 40) (.t 38), none, 656640, 5, []⟩])
  (.seq (.reg [⟨(some 41), .mv (.t 1), none, 720896, 0, []⟩,
    ⟨(some 42), .bin .add (.t 41) (.k (.int .i64 1)), none, 721152, 1, []⟩,
    ⟨(some 1), .mv (.t 42), none, 721408, 2, []⟩])
  (.seq (.reg [⟨(some 43), .mv (.t 0), none, 786432, 0, []⟩,
    ⟨(some 44), .mv (.t 5), none, 786688, 1, []⟩,
    ⟨(some 45), .mv (.t 1), none, 786944, 2, []⟩,
    ⟨(some 46), .iaddr 6 (.t 43) (.t 44), none, 787200, 3, []⟩,
    ⟨(some 47), .faddr 4 (.t 46), none, 787456, 4, []⟩,
    ⟨none, .store 1 (.t 47) (.t 45), none, 787712, 5, []⟩])
  (.seq (.reg [⟨(some 48), .mv (.t 1), none, 851968, 0, []⟩,
    ⟨(some 49), .bin .add (.t 48) (.k (.int .i64 1)), none, 852224, 1, []⟩,
    ⟨(some 1), .mv (.t 49), none, 852480, 2, []⟩])
  (.seq (.reg [⟨(some 50), .mv (.t 0), none, 917504, 0, []⟩,
    ⟨(some 51), .mv (.t 5), none, 917760, 1, []⟩,
    ⟨(some 52), .mv (.t 1), none, 918016, 2, []⟩,
    ⟨(some 53), .call 58 [(.t 52)] true, none, 918272, 3, []⟩,
    ⟨(some 54), .iaddr 6 (.t 50) (.t 51), none, 918528, 4, []⟩,
    ⟨(some 55), .faddr 5 (.t 54), none, 918784, 5, []⟩,
    ⟨none, .store 1 (.t 55) (.t 53), none, 919040, 6, []⟩])
  (.reg [⟨(some 56), .mv (.t 1), none, 983040, 0, []⟩,
    ⟨(some 57), .bin .add (.t 56) (.k (.int .i64 1)), none, 983296, 1, []⟩,
    ⟨(some 1), .mv (.t 57), none, 983552, 2, []⟩])))))))))))))
  (.reg [⟨(some 10), .mv (.t 5), none, 196608, 0, []⟩,
    ⟨(some 11), .bin .add (.t 10) (.k (.int .i64 1)), none, 196864, 1, []⟩,
    ⟨(some 5), .mv (.t 11), none, 197120, 2, []⟩]))))))
 (.seq (.reg [⟨(some 58), .mv (.t 1), none, 1048576, 0, []⟩,
   ⟨(some 4), .mv (.t 58), none, 1048832, 1, []⟩])
 (.ret)))⟩
/-- loop.example/g00849/laws.heldHeadS -/
def F49 : F := ⟨2, 61, [.t 4],
 .seq (.reg [⟨(some 4), .mv (.k (.int .i64 0)), none, 0, 0, []⟩])
 (.seq (.seq (.reg [⟨(some 5), .mv (.k (.int .i64 0)), none, 65536, 0, []⟩])
 (.block 0 (.loop [0, 1, 5] []
  (.seq (.seq (.reg [⟨(some 6), .mv (.t 5), none, 131072, 0, []⟩,
    ⟨(some 7), .mv (.t 0), none, 131328, 1, []⟩,
    ⟨(some 8), .len false (.t 7), none, 131584, 2, []⟩,
    ⟨(some 9), .bin .lss (.t 6) (.t 8), none, 131840, 3, []⟩])
  (.cond (.t 9)
   (.skip)
   (.exit 0)))
  (.seq (.block 1 (.seq (.seq (.reg [⟨(some 12), .mv (.t 0), none, 262144, 0, []⟩,
    ⟨(some 13), .mv (.t 5), none, 262400, 1, []⟩,
    ⟨(some 14), .iaddr 5 (.t 12) (.t 13), none, 262656, 2, []⟩,
    ⟨(some 15), .faddr 0 (.t 14), none, 262912, 3, []⟩,
    ⟨(some 16), .load 1 false (.t 15), none, 263168, 4, []⟩,
    ⟨(some 17), .mv (.t 1), none, 263424, 5, []⟩,
    ⟨(some 18), .call 58 [(.t 17)] true, none, 263680, 6, []⟩,
    ⟨(some 19), .bin .neq (.t 16) (.t 18), none, 263936, 7, []⟩])
  (.cond (.t 19)
   (.seq (.reg [⟨(some 4), .mv (.k (.int .i64 (-1))), none, 327680, 0, []⟩])
   (.ret))
   (.skip)))
  (.seq (.reg [⟨(some 20), .mv (.t 1), none, 393216, 0, []⟩,
    ⟨(some 21), .bin .add (.t 20) (.k (.int .i64 1)), none, 393472, 1, []⟩,
    ⟨(some 1), .mv (.t 21), none, 393728, 2, []⟩])
  (.seq (.seq (.reg [⟨(some 22), .mv (.t 0), none, 458752, 0, []⟩,
    ⟨(some 23), .mv (.t 5), none, 459008, 1, []⟩,
    ⟨(some 24), .iaddr 5 (.t 22) (.t 23), none, 459264, 2, []⟩,
    ⟨(some 25), .faddr 1 (.t 24), none, 459520, 3, []⟩,
    ⟨(some 26), .faddr 0 (.t 25), none, 459776, 4, []⟩,
    ⟨(some 27), .load 1 false (.t 26), none, 460032, 5, []⟩,
    ⟨(some 28), .mv (.t 1), none, 460288, 6, []⟩,
    ⟨(some 29), .bin .neq (.t 27) (.t 28), none, 460544, 7, []⟩])
  (.cond (.t 29)
   (.seq (.reg [⟨(some 4), .mv (.k (.int .i64 (-1))), none, 524288, 0, []⟩])
   (.ret))
   (.skip)))
  (.seq (.reg [⟨(some 30), .mv (.t 1), none, 589824, 0, []⟩,
    ⟨(some 31), .bin .add (.t 30) (.k (.int .i64 1)), none, 590080, 1, []⟩,
    ⟨(some 1), .mv (.t 31), none, 590336, 2, []⟩])
  (.seq (.seq (.reg [⟨(some 32), .mv (.t 0), none, 655360, 0, []⟩,
    ⟨(some 33), .mv (.t 5), none, 655616, 1, []⟩,
    ⟨(some 34), .iaddr 5 (.t 32) (.t 33), none, 655872, 2, []⟩,
    ⟨(some 35), .faddr 1 (.t 34), none, 656128, 3, []⟩,
    ⟨(some 36), .faddr 1 (.t 35), none, 656384, 4, []⟩,
    ⟨(some 37), .load 1 false (.t 36), none, 656640, 5, []⟩,
    ⟨(some 38), .mv (.t 1), none, 656896, 6, []⟩,
    ⟨(some 39), .bin .neq (.t 37) (.t 38), none, 657152, 7, []⟩])
  (.cond (.t 39)
   (.seq (.reg [⟨(some 4), .mv (.k (.int .i64 (-1))), none, 720896, 0, []⟩])
   (.ret))
   (.skip)))
  (.seq (.reg [⟨(some 40), .mv (.t 1), none, 786432, 0, []⟩,
    ⟨(some 41), .bin .add (.t 40) (.k (.int .i64 1)), none, 786688, 1, []⟩,
    ⟨(some 1), .mv (.t 41), none, 786944, 2, []⟩])
  (.seq (.seq (.reg [⟨(some 42), .mv (.t 0), none, 851968, 0, []⟩,
    ⟨(some 43), .mv (.t 5), none, 852224, 1, []⟩,
    ⟨(some 44), .iaddr 5 (.t 42) (.t 43), none, 852480, 2, []⟩,
    ⟨(some 45), .faddr 3 (.t 44), none, 852736, 3, []⟩,
    ⟨(some 46), .load 1 false (.t 45), none, 852992, 4, []⟩,
    ⟨(some 47), .mv (.t 1), none, 853248, 5, []⟩,
    ⟨(some 48), .bin .neq (.t 46) (.t 47), none, 853504, 6, []⟩])
  (.cond (.t 48)
   (.seq (.reg [⟨(some 4), .mv (.k (.int .i64 (-1))), none, 917504, 0, []⟩])
   (.ret))
   (.skip)))
  (.seq (.reg [⟨(some 49), .mv (.t 1), none, 983040, 0, []⟩,
    ⟨(some 50), .bin .add (.t 49) (.k (.int .i64 1)), none, 983296, 1, []⟩,
    ⟨(some 1), .mv (.t 50), none, 983552, 2, []⟩])
  (.seq (.seq (.reg [⟨(some 51), .mv (.t 0), none, 1048576, 0, []⟩,
    ⟨(some 52), .mv (.t 5), none, 1048832, 1, []⟩,
    ⟨(some 53), .iaddr 5 (.t 51) (.t 52), none, 1049088, 2, []⟩,
    ⟨(some 54), .faddr 4 (.t 53), none, 1049344, 3, []⟩,
    ⟨(some 55), .load 1 false (.t 54), none, 1049600, 4, []⟩,
    ⟨(some 56), .mv (.t 1), none, 1049856, 5, []⟩,
    ⟨(some 57), .bin .neq (.t 55) (.t 56), none, 1050112, 6, []⟩])
  (.cond (.t 57)
   (.seq (.reg [⟨(some 4), .mv (.k (.int .i64 (-1))), none, 1114112, 0, []⟩])
   (.ret))
   (.skip)))
  (.reg [⟨(some 58), .mv (.t 1), none, 1179648, 0, []⟩,
    ⟨(some 59), .bin .add (.t 58) (.k (.int .i64 1)), none, 1179904, 1, []⟩,
    ⟨(some 1), .mv (.t 59), none, 1180160, 2, []⟩])))))))))))
  (.reg [⟨(some 10), .mv (.t 5), none, 196608, 0, []⟩,
    ⟨(some 11), .bin .add (.t 10) (.k (.int .i64 1)), none, 196864, 1, []⟩,
    ⟨(some 5), .mv (.t 11), none, 197120, 2, []⟩]))))))
 (.seq (.reg [⟨(some 60), .mv (.t 1), none, 1245184, 0, []⟩,
   ⟨(some 4), .mv (.t 60), none, 1245440, 1, []⟩])
 (.ret)))⟩
/-- loop.example/g00849/laws.heldLastS -/
def F50 : F := ⟨2, 51, [.t 4],
 .seq (.reg [⟨(some 4), .mv (.k (.int .i64 0)), none, 0, 0, []⟩])
 (.seq (.seq (.reg [⟨(some 5), .mv (.k (.int .i64 0)), none, 65536, 0, []⟩])
 (.block 0 (.loop [0, 1, 5] []
  (.seq (.seq (.reg [⟨(some 6), .mv (.t 5), none, 131072, 0, []⟩,
    ⟨(some 7), .mv (.t 0), none, 131328, 1, []⟩,
    ⟨(some 8), .len false (.t 7), none, 131584, 2, []⟩,
    ⟨(some 9), .bin .lss (.t 6) (.t 8), none, 131840, 3, []⟩])
  (.cond (.t 9)
   (.skip)
   (.exit 0)))
  (.seq (.block 1 (.seq (.seq (.reg [⟨(some 12), .mv (.t 0), none, 262144, 0, []⟩,
    ⟨(some 13), .mv (.t 5), none, 262400, 1, []⟩,
    ⟨(some 14), .iaddr 4 (.t 12) (.t 13), none, 262656, 2, []⟩,
    ⟨(some 15), .faddr 0 (.t 14), none, 262912, 3, []⟩,
    ⟨(some 16), .load 1 false (.t 15), none, 263168, 4, []⟩,
    ⟨(some 17), .mv (.t 1), none, 263424, 5, []⟩,
    ⟨(some 18), .bin .neq (.t 16) (.t 17), none, 263680, 6, []⟩])
  (.cond (.t 18)
   (.seq (.reg [⟨(some 4), .mv (.k (.int .i64 (-1))), none, 327680, 0, []⟩])
   (.ret))
   (.skip)))
  (.seq (.reg [⟨(some 19), .mv (.t 1), none, 393216, 0, []⟩,
    ⟨(some 20), .bin .add (.t 19) (.k (.int .i64 1)), none, 393472, 1, []⟩,
    ⟨(some 1), .mv (.t 20), none, 393728, 2, []⟩])
  (.seq (.seq (.reg [⟨(some 21), .mv (.t 0), none, 458752, 0, []⟩,
    ⟨(some 22), .mv (.t 5), none, 459008, 1, []⟩,
    ⟨(some 23), .iaddr 4 (.t 21) (.t 22), none, 459264, 2, []⟩,
    ⟨(some 24), .faddr 1 (.t 23), none, 459520, 3, []⟩,
    ⟨(some 25), .load 1 false (.t 24), none, 459776, 4, []⟩,
    ⟨(some 26), .mv (.t 1), none, 460032, 5, []⟩,
    ⟨(some 27), .bin .neq (.t 25) (.t 26), none, 460288, 6, []⟩])
  (.cond (.t 27)
   (.seq (.reg [⟨(some 4), .mv (.k (.int .i64 (-1))), none, 524288, 0, []⟩])
   (.ret))
   (.skip)))
  (.seq (.reg [⟨(some 28), .mv (.t 1), none, 589824, 0, []⟩,
    ⟨(some 29), .bin .add (.t 28) (.k (.int .i64 1)), none, 590080, 1, []⟩,
    ⟨(some 1), .mv (.t 29), none, 590336, 2, []⟩])
  (.seq (.seq (.reg [⟨(some 30), .mv (.t 0), none, 655360, 0, []⟩,
    ⟨(some 31), .mv (.t 5), none, 655616, 1, []⟩,
    ⟨(some 32), .iaddr 4 (.t 30) (.t 31), none, 655872, 2, []⟩,
    ⟨(some 33), .faddr 2 (.t 32), none, 656128, 3, []⟩,
    ⟨(some 34), .faddr 0 (.t 33), none, 656384, 4, []⟩,
    ⟨(some 35), .load 1 false (.t 34), none, 656640, 5, []⟩,
    ⟨(some 36), .mv (.t 1), none, 656896, 6, []⟩,
    ⟨(some 37), .bin .neq (.t 35) (.t 36), none, 657152, 7, []⟩])
  (.cond (.t 37)
   (.seq (.reg [⟨(some 4), .mv (.k (.int .i64 (-1))), none, 720896, 0, []⟩])
   (.ret))
   (.skip)))
  (.seq (.reg [⟨(some 38), .mv (.t 1), none, 786432, 0, []⟩,
    ⟨(some 39), .bin .add (.t 38) (.k (.int .i64 1)), none, 786688, 1, []⟩,
    ⟨(some 1), .mv (.t 39), none, 786944, 2, []⟩])
  (.seq (.seq (.reg [⟨(some 40), .mv (.t 0), none, 851968, 0, []⟩,
    ⟨(some 41), .mv (.t 5), none, 852224, 1, []⟩,
    ⟨(some 42), .iaddr 4 (.t 40) (.t 41), none, 852480, 2, []⟩,
    ⟨(some 43), .faddr 2 (.t 42), none, 852736, 3, []⟩,
    ⟨(some 44), .faddr 1 (.t 43), none, 852992, 4, []⟩,
    ⟨(some 45), .load 1 false (.t 44), none, 853248, 5, []⟩,
    ⟨(some 46), .mv (.t 1), none, 853504, 6, []⟩,
    ⟨(some 47), .bin .neq (.t 45) (.t 46), none, 853760, 7, []⟩])
  (.cond (.t 47)
   (.seq (.reg [⟨(some 4), .mv (.k (.int .i64 (-1))), none, 917504, 0, []⟩])
   (.ret))
   (.skip)))
  (.reg [⟨(some 48), .mv (.t 1), none, 983040, 0, []⟩,
    ⟨(some 49), .bin .add (.t 48) (.k (.int .i64 1)), none, 983296, 1, []⟩,
    ⟨(some 1), .mv (.t 49), none, 983552, 2, []⟩])))))))))
  (.reg [⟨(some 10), .mv (.t 5), none, 196608, 0, []⟩,
    ⟨(some 11), .bin .add (.t 10) (.k (.int .i64 1)), none, 196864, 1, []⟩,
    ⟨(some 5), .mv (.t 11), none, 197120, 2, []⟩]))))))
 (.seq (.reg [⟨(some 50), .mv (.t 1), none, 1048576, 0, []⟩,
   ⟨(some 4), .mv (.t 50), none, 1048832, 1, []⟩])
 (.ret)))⟩
/-- loop.example/g00849/laws.heldEntryS -/
def F51 : F := ⟨2, 112, [.t 4],
 .seq (.reg [⟨(some 4), .mv (.k (.int .i64 0)), none, 0, 0, []⟩])
 (.seq (.seq (.reg [⟨(some 5), .mv (.k (.int .i64 0)), none, 65536, 0, []⟩])
 (.block 0 (.loop [0, 1, 5] []
  (.seq (.seq (.reg [⟨(some 6), .mv (.t 5), none, 131072, 0, []⟩,
    ⟨(some 7), .mv (.t 0), none, 131328, 1, []⟩,
    ⟨(some 8), .len false (.t 7), none, 131584, 2, []⟩,
    ⟨(some 9), .bin .lss (.t 6) (.t 8), none, 131840, 3, []⟩])
  (.cond (.t 9)
   (.skip)
   (.exit 0)))
  (.seq (.block 1 (.seq (.seq (.reg [⟨(some 12), .mv (.t 0), none, 262144, 0, []⟩,
    ⟨(some 13), .mv (.t 5), none, 262400, 1, []⟩,
    ⟨(some 14), .iaddr 10 (.t 12) (.t 13), none, 262656, 2, []⟩,
    ⟨(some 15), .faddr 0 (.t 14), none, 262912, 3, []⟩,
    ⟨(some 16), .faddr 0 (.t 15), none, 263168, 4, []⟩,
    ⟨(some 17), .load 1 false (.t 16), none, 263424, 5, []⟩,
    ⟨(some 18), .mv (.t 1), none, 263680, 6, []⟩,
    ⟨(some 19), .bin .neq (.t 17) (.t 18), none, 263936, 7, []⟩])
  (.cond (.t 19)
   (.seq (.reg [⟨(some 4), .mv (.k (.int .i64 (-1))), none, 327680, 0, []⟩])
   (.ret))
   (.skip)))
  (.seq (.reg [⟨(some 20), .mv (.t 1), none, 393216, 0, []⟩,
    ⟨(some 21), .bin .add (.t 20) (.k (.int .i64 1)), none, 393472, 1, []⟩,
    ⟨(some 1), .mv (.t 21), none, 393728, 2, []⟩])
  (.seq (.seq (.reg [⟨(some 22), .mv (.t 0), none, 458752, 0, []⟩,
    ⟨(some 23), .mv (.t 5), none, 459008, 1, []⟩,
    ⟨(some 24), .iaddr 10 (.t 22) (.t 23), none, 459264, 2, []⟩,
    ⟨(some 25), .faddr 0 (.t 24), none, 459520, 3, []⟩,
    ⟨(some 26), .faddr 1 (.t 25), none, 459776, 4, []⟩,
    ⟨(some 27), .load 1 false (.t 26), none, 460032, 5, []⟩,
    ⟨(some 28), .mv (.t 1), none, 460288, 6, []⟩,
    ⟨(some 29), .bin .neq (.t 27) (.t 28), none, 460544, 7, []⟩])
  (.cond (.t 29)
   (.seq (.reg [⟨(some 4), .mv (.k (.int .i64 (-1))), none, 524288, 0, []⟩])
   (.ret))
   (.skip)))
  (.seq (.reg [⟨(some 30), .mv (.t 1), none, 589824, 0, []⟩,
    ⟨(some 31), .bin .add (.t 30) (.k (.int .i64 1)), none, 590080, 1, []⟩,
    ⟨(some 1), .mv (.t 31), none, 590336, 2, []⟩])
  (.seq (.seq (.reg [⟨(some 32), .mv (.t 0), none, 655360, 0, []⟩,
    ⟨(some 33), .mv (.t 5), none, 655616, 1, []⟩,
    ⟨(some 34), .iaddr 10 (.t 32) (.t 33), none, 655872, 2, []⟩,
    ⟨(some 35), .faddr 2 (.t 34), none, 656128, 3, []⟩,
    ⟨(some 36), .faddr 0 (.t 35), none, 656384, 4, []⟩,
    ⟨(some 37), .load 1 false (.t 36), none, 656640, 5, []⟩,
    ⟨(some 38), .mv (.t 1), none, 656896, 6, []⟩,
    ⟨(some 39), .bin .neq (.t 37) (.t 38), none, 657152, 7, []⟩])
  (.cond (.t 39)
   (.seq (.reg [⟨(some 4), .mv (.k (.int .i64 (-1))), none, 720896, 0, []⟩])
   (.ret))
   (.skip)))
  (.seq (.reg [⟨(some 40), .mv (.t 1), none, 786432, 0, []⟩,
    ⟨(some 41), .bin .add (.t 40) (.k (.int .i64 1)), none, 786688, 1, []⟩,
    ⟨(some 1), .mv (.t 41), none, 786944, 2, []⟩])
  (.seq (.seq (.reg [⟨(some 42), .mv (.t 0), none, 851968, 0, []⟩,
    ⟨(some 43), .mv (.t 5), none, 852224, 1, []⟩,
    ⟨(some 44), .iaddr 10 (.t 42) (.t 43), none, 852480, 2, []⟩,
    ⟨(some 45), .faddr 2 (.t 44), none, 852736, 3, []⟩,
    ⟨(some 46), .faddr 1 (.t 45), none, 852992, 4, []⟩,
    ⟨(some 47), .load 1 false (.t 46), none, 853248, 5, []⟩,
    ⟨(some 48), .mv (.t 1), none, 853504, 6, []⟩,
    ⟨(some 49), .bin .neq (.t 47) (.t 48), none, 853760, 7, []⟩])
  (.cond (.t 49)
   (.seq (.reg [⟨(some 4), .mv (.k (.int .i64 (-1))), none, 917504, 0, []⟩])
   (.ret))
   (.skip)))
  (.seq (.reg [⟨(some 50), .mv (.t 1), none, 983040, 0, []⟩,
    ⟨(some 51), .bin .add (.t 50) (.k (.int .i64 1)), none, 983296, 1, []⟩,
    ⟨(some 1), .mv (.t 51), none, 983552, 2, []⟩])
  (.seq (.seq (.reg [⟨(some 52), .mv (.t 0), none, 1048576, 0, []⟩,
    ⟨(some 53), .mv (.t 5), none, 1048832, 1, []⟩,
    ⟨(some 54), .iaddr 10 (.t 52) (.t 53), none, 1049088, 2, []⟩,
    ⟨(some 55), .faddr 4 (.t 54), none, 1049344, 3, []⟩,
    ⟨(some 56), .load 1 false (.t 55), none, 1049600, 4, []⟩,
    ⟨(some 57), .mv (.t 1), none, 1049856, 5, []⟩,
    ⟨(some 58), .call 58 [(.t 57)] true, none, 1050112, 6, []⟩,
    ⟨(some 59), .bin .neq (.t 56) (.t 58), none, 1050368, 7, []⟩])
  (.cond (.t 59)
   (.seq (.reg [⟨(some 4), .mv (.k (.int .i64 (-1))), none, 1114112, 0, []⟩])
   (.ret))
   (.skip)))
  (.seq (.reg [⟨(some 60), .mv (.t 1), none, 1179648, 0, []⟩,
    ⟨(some 61), .bin .add (.t 60) (.k (.int .i64 1)), none, 1179904, 1, []⟩,
    ⟨(some 1), .mv (.t 61), none, 1180160, 2, []⟩])
  (.seq (.seq (.reg [⟨(some 62), .mv (.t 0), none, 1245184, 0, []⟩,
    ⟨(some 63), .mv (.t 5), none, 1245440, 1, []⟩,
    ⟨(some 64), .iaddr 10 (.t 62) (.t 63), none, 1245696, 2, []⟩,
    ⟨(some 65), .faddr 5 (.t 64), none, 1245952, 3, []⟩,
    ⟨(some 66), .load 1 false (.t 65), none, 1246208, 4, []⟩,
    ⟨(some 67), .mv (.t 1), none, 1246464, 5, []⟩,
    ⟨(some 68), .bin .rem (.t 67) (.k (.int .i64 3)), none, 1246720, 6, []⟩,
    ⟨(some 69), .bin .eql (.t 68) (.k (.int .i64 0)), none, 1246976, 7, []⟩,
    ⟨(some 70), .eqv true false [.b] (.t 66) (.t 69), none, 1247232, 8, []⟩])
  (.cond (.t 70)
   (.seq (.reg [⟨(some 4), .mv (.k (.int .i64 (-1))), none, 1310720, 0, []⟩])
   (.ret))
   (.skip)))
  (.seq (.reg [⟨(some 71), .mv (.t 1), none, 1376256, 0, []⟩,
    ⟨(some 72), .bin .add (.t 71) (.k (.int .i64 1)), none, 1376512, 1, []⟩,
    ⟨(some 1), .mv (.t 72), none, 1376768, 2, []⟩])
  (.seq (.seq (.reg [⟨(some 73), .mv (.t 0), none, 1441792, 0, []⟩,
    ⟨(some 74), .mv (.t 5), none, 1442048, 1, []⟩,
    ⟨(some 75), .iaddr 10 (.t 73) (.t 74), none, 1442304, 2, []⟩,
    ⟨(some 76), .faddr 6 (.t 75), none, 1442560, 3, []⟩,
    ⟨(some 77), .load 1 false (.t 76), none, 1442816, 4, []⟩,
    ⟨(some 78), .mv (.t 1), none, 1443072, 5, []⟩,
    ⟨(some 79), .bin .neq (.t 77) (.t 78), none, 1443328, 6, []⟩])
  (.cond (.t 79)
   (.seq (.reg [⟨(some 4), .mv (.k (.int .i64 (-1))), none, 1507328, 0, []⟩])
   (.ret))
   (.skip)))
  (.seq (.reg [⟨(some 80), .mv (.t 1), none, 1572864, 0, []⟩,
    ⟨(some 81), .bin .add (.t 80) (.k (.int .i64 1)), none, 1573120, 1, []⟩,
    ⟨(some 1), .mv (.t 81), none, 1573376, 2, []⟩])
  (.seq (.seq (.reg [⟨(some 82), .mv (.t 0), none, 1638400, 0, []⟩,
    ⟨(some 83), .mv (.t 5), none, 1638656, 1, []⟩,
    ⟨(some 84), .iaddr 10 (.t 82) (.t 83), none, 1638912, 2, []⟩,
    ⟨(some 85), .faddr 7 (.t 84), none, 1639168, 3, []⟩,
    ⟨(some 86), .load 1 false (.t 85), none, 1639424, 4, []⟩,
    ⟨(some 87), .mv (.t 1), none, 1639680, 5, []⟩,
    ⟨(some 88), .bin .neq (.t 86) (.t 87), none, 1639936, 6, []⟩])
  (.cond (.t 88)
   (.seq (.reg [⟨(some 4), .mv (.k (.int .i64 (-1))), none, 1703936, 0, []⟩])
   (.ret))
   (.skip)))
  (.seq (.reg [⟨(some 89), .mv (.t 1), none, 1769472, 0, []⟩,
    ⟨(some 90), .bin .add (.t 89) (.k (.int .i64 1)), none, 1769728, 1, []⟩,
    ⟨(some 1), .mv (.t 90), none, 1769984, 2, []⟩])
  (.seq (.seq (.reg [⟨(some 91), .mv (.t 0), none, 1835008, 0, []⟩,
    ⟨(some 92), .mv (.t 5), none, 1835264, 1, []⟩,
    ⟨(some 93), .iaddr 10 (.t 91) (.t 92), none, 1835520, 2, []⟩,
    ⟨(some 94), .faddr 8 (.t 93), none, 1835776, 3, []⟩,
    ⟨(some 95), .faddr 0 (.t 94), none, 1836032, 4, []⟩,
    ⟨(some 96), .load 1 false (.t 95), none, 1836288, 5, []⟩,
    ⟨(some 97), .mv (.t 1), none, 1836544, 6, []⟩,
    ⟨(some 98), .bin .neq (.t 96) (.t 97), none, 1836800, 7, []⟩])
  (.cond (.t 98)
   (.seq (.reg [⟨(some 4), .mv (.k (.int .i64 (-1))), none, 1900544, 0, []⟩])
   (.ret))
   (.skip)))
  (.seq (.reg [⟨(some 99), .mv (.t 1), none, 1966080, 0, []⟩,
    ⟨(some 100), .bin .add (.t 99) (.k (.int .i64 1)), none, 1966336, 1, []⟩,
    ⟨(some 1), .mv (.t 100), none, 1966592, 2, []⟩])
  (.seq (.seq (.reg [⟨(some 101), .mv (.t 0), none, 2031616, 0, []⟩,
    ⟨(some 102), .mv (.t 5), none, 2031872, 1, []⟩,
    ⟨(some 103), .iaddr 10 (.t 101) (.t 102), none, 2032128, 2, []⟩,
    ⟨(some 104), .faddr 8 (.t 103), none, 2032384, 3, []⟩,
    ⟨(some 105), .faddr 1 (.t 104), none, 2032640, 4, []⟩,
    ⟨(some 106), .load 1 false (.t 105), none, 2032896, 5, []⟩,
    ⟨(some 107), .mv (.t 1), none, 2033152, 6, []⟩,
    ⟨(some 108), .bin .neq (.t 106) (.t 107), none, 2033408, 7, []⟩])
  (.cond (.t 108)
   (.seq (.reg [⟨(some 4), .mv (.k (.int .i64 (-1))), none, 2097152, 0, []⟩])
   (.ret))
   (.skip)))
  (.reg [⟨(some 109), .mv (.t 1), none, 2162688, 0, []⟩,
    ⟨(some 110), .bin .add (.t 109) (.k (.int .i64 1)), none, 2162944, 1, []⟩,
    ⟨(some 1), .mv (.t 110), none, 2163200, 2, []⟩])))))))))))))))))))))
  (.reg [⟨(some 10), .mv (.t 5), none, 196608, 0, []⟩,
    ⟨(some 11), .bin .add (.t 10) (.k (.int .i64 1)), none, 196864, 1, []⟩,
    ⟨(some 5), .mv (.t 11), none, 197120, 2, []⟩]))))))
 (.seq (.reg [⟨(some 111), .mv (.t 1), none, 2228224, 0, []⟩,
   ⟨(some 4), .mv (.t 111), none, 2228480, 1, []⟩])
 (.ret)))⟩
/-- loop.example/g00849/laws.heldChunkS -/
def F52 : F := ⟨2, 71, [.t 4],
 .seq (.reg [⟨(some 4), .mv (.k (.int .i64 0)), none, 0, 0, []⟩])
 (.seq (.seq (.reg [⟨(some 5), .mv (.k (.int .i64 0)), none, 65536, 0, []⟩])
 (.block 0 (.loop [0, 1, 5] []
  (.seq (.seq (.reg [⟨(some 6), .mv (.t 5), none, 131072, 0, []⟩,
    ⟨(some 7), .mv (.t 0), none, 131328, 1, []⟩,
    ⟨(some 8), .len false (.t 7), none, 131584, 2, []⟩,
    ⟨(some 9), .bin .lss (.t 6) (.t 8), none, 131840, 3, []⟩])
  (.cond (.t 9)
   (.skip)
   (.exit 0)))
  (.seq (.block 1 (.seq (.seq (.reg [⟨(some 12), .mv (.t 0), none, 262144, 0, []⟩,
    ⟨(some 13), .mv (.t 5), none, 262400, 1, []⟩,
    ⟨(some 14), .iaddr 6 (.t 12) (.t 13), none, 262656, 2, []⟩,
    ⟨(some 15), .faddr 0 (.t 14), none, 262912, 3, []⟩,
    ⟨(some 16), .load 1 false (.t 15), none, 263168, 4, []⟩,
    ⟨(some 17), .mv (.t 1), none, 263424, 5, []⟩,
    ⟨(some 18), .call 58 [(.t 17)] true, none, 263680, 6, []⟩,
    ⟨(some 19), .bin .neq (.t 16) (.t 18), none, 263936, 7, []⟩])
  (.cond (.t 19)
   (.seq (.reg [⟨(some 4), .mv (.k (.int .i64 (-1))), none, 327680, 0, []⟩])
   (.ret))
   (.skip)))
  (.seq (.reg [⟨(some 20), .mv (.t 1), none, 393216, 0, []⟩,
    ⟨(some 21), .bin .add (.t 20) (.k (.int .i64 1)), none, 393472, 1, []⟩,
    ⟨(some 1), .mv (.t 21), none, 393728, 2, []⟩])
  (.seq (.seq (.reg [⟨(some 22), .mv (.t 0), none, 458752, 0, []⟩,
    ⟨(some 23), .mv (.t 5), none, 459008, 1, []⟩,
    ⟨(some 24), .iaddr 6 (.t 22) (.t 23), none, 459264, 2, []⟩,
    ⟨(some 25), .faddr 1 (.t 24), none, 459520, 3, []⟩,
    ⟨(some 26), .faddr 0 (.t 25), none, 459776, 4, []⟩,
    ⟨(some 27), .load 1 false (.t 26), none, 460032, 5, []⟩,
    ⟨(some 28), .mv (.t 1), none, 460288, 6, []⟩,
    ⟨(some 29), .bin .neq (.t 27) (.t 28), none, 460544, 7, []⟩])
  (.cond (.t 29)
   (.seq (.reg [⟨(some 4), .mv (.k (.int .i64 (-1))), none, 524288, 0, []⟩])
   (.ret))
   (.skip)))
  (.seq (.reg [⟨(some 30), .mv (.t 1), none, 589824, 0, []⟩,
    ⟨(some 31), .bin .add (.t 30) (.k (.int .i64 1)), none, 590080, 1, []⟩,
    ⟨(some 1), .mv (.t 31), none, 590336, 2, []⟩])
  (.seq (.seq (.reg [⟨(some 32), .mv (.t 0), none, 655360, 0, []⟩,
    ⟨(some 33), .mv (.t 5), none, 655616, 1, []⟩,
    ⟨(some 34), .iaddr 6 (.t 32) (.t 33), none, 655872, 2, []⟩,
    ⟨(some 35), .faddr 1 (.t 34), none, 656128, 3, []⟩,
    ⟨(some 36), .faddr 1 (.t 35), none, 656384, 4, []⟩,
    ⟨(some 37), .load 1 false (.t 36), none, 656640, 5, []⟩,
    ⟨(some 38), .mv (.t 1), none, 656896, 6, []⟩,
    ⟨(some 39), .bin .neq (.t 37) (.t 38), none, 657152, 7, []⟩])
  (.cond (.t 39)
   (.seq (.reg [⟨(some 4), .mv (.k (.int .i64 (-1))), none, 720896, 0, []⟩])
   (.ret))
   (.skip)))
  (.seq (.reg [⟨(some 40), .mv (.t 1), none, 786432, 0, []⟩,
    ⟨(some 41), .bin .add (.t 40) (.k (.int .i64 1)), none, 786688, 1, []⟩,
    ⟨(some 1), .mv (.t 41), none, 786944, 2, []⟩])
  (.seq (.seq (.reg [⟨(some 42), .mv (.t 0), none, 851968, 0, []⟩,
    ⟨(some 43), .mv (.t 5), none, 852224, 1, []⟩,
    ⟨(some 44), .iaddr 6 (.t 42) (.t 43), none, 852480, 2, []⟩,
    ⟨(some 45), .faddr 3 (.t 44), none, 852736, 3, []⟩,
    ⟨(some 46), .load 1 false (.t 45), none, 852992, 4, []⟩,
    ⟨(some 47), .mv (.t 1), none, 853248, 5, []⟩,
    ⟨(some 48), .bin .neq (.t 46) (.t 47), none, 853504, 6, []⟩])
  (.cond (.t 48)
   (.seq (.reg [⟨(some 4), .mv (.k (.int .i64 (-1))), none, 917504, 0, []⟩])
   (.ret))
   (.skip)))
  (.seq (.reg [⟨(some 49), .mv (.t 1), none, 983040, 0, []⟩,
    ⟨(some 50), .bin .add (.t 49) (.k (.int .i64 1)), none, 983296, 1, []⟩,
    ⟨(some 1), .mv (.t 50), none, 983552, 2, []⟩])
  (.seq (.seq (.reg [⟨(some 51), .mv (.t 0), none, 1048576, 0, []⟩,
    ⟨(some 52), .mv (.t 5), none, 1048832, 1, []⟩,
    ⟨(some 53), .iaddr 6 (.t 51) (.t 52), none, 1049088, 2, []⟩,
    ⟨(some 54), .faddr 4 (.t 53), none, 1049344, 3, []⟩,
    ⟨(some 55), .load 1 false (.t 54), none, 1049600, 4, []⟩,
    ⟨(some 56), .mv (.t 1), none, 1049856, 5, []⟩,
    ⟨(some 57), .bin .neq (.t 55) (.t 56), none, 1050112, 6, []⟩])
  (.cond (.t 57)
   (.seq (.reg [⟨(some 4), .mv (.k (.int .i64 (-1))), none, 1114112, 0, []⟩])
   (.ret))
   (.skip)))
  (.seq (.reg [⟨(some 58), .mv (.t 1), none, 1179648, 0, []⟩,
    ⟨(some 59), .bin .add (.t 58) (.k (.int .i64 1)), none, 1179904, 1, []⟩,
    ⟨(some 1), .mv (.t 59), none, 1180160, 2, []⟩])
  (.seq (.seq (.reg [⟨(some 60), .mv (.t 0), none, 1245184, 0, []⟩,
    ⟨(some 61), .mv (.t 5), none, 1245440, 1, []⟩,
    ⟨(some 62), .iaddr 6 (.t 60) (.t 61), none, 1245696, 2, []⟩,
    ⟨(some 63), .faddr 5 (.t 62), none, 1245952, 3, []⟩,
    ⟨(some 64), .load 1 false (.t 63), none, 1246208, 4, []⟩,
    ⟨(some 65), .mv (.t 1), none, 1246464, 5, []⟩,
    ⟨(some 66), .call 58 [(.t 65)] true, none, 1246720, 6, []⟩,
    ⟨(some 67), .bin .neq (.t 64) (.t 66), none, 1246976, 7, []⟩])
  (.cond (.t 67)
   (.seq (.reg [⟨(some 4), .mv (.k (.int .i64 (-1))), none, 1310720, 0, []⟩])
   (.ret))
   (.skip)))
  (.reg [⟨(some 68), .mv (.t 1), none, 1376256, 0, []⟩,
    ⟨(some 69), .bin .add (.t 68) (.k (.int .i64 1)), none, 1376512, 1, []⟩,
    ⟨(some 1), .mv (.t 69), none, 1376768, 2, []⟩])))))))))))))
  (.reg [⟨(some 10), .mv (.t 5), none, 196608, 0, []⟩,
    ⟨(some 11), .bin .add (.t 10) (.k (.int .i64 1)), none, 196864, 1, []⟩,
    ⟨(some 5), .mv (.t 11), none, 197120, 2, []⟩]))))))
 (.seq (.reg [⟨(some 70), .mv (.t 1), none, 1441792, 0, []⟩,
   ⟨(some 4), .mv (.t 70), none, 1442048, 1, []⟩])
 (.ret)))⟩
/-- loop.example/g00849/spec.l09Name -/
def F53 : F := ⟨1, 36, [.t 2],
 .seq (.reg [⟨(some 2), .mv (.k (.bool false)), none, 0, 0, []⟩])
 (.seq (.seq (.reg [⟨(some 5), .mv (.t 0), none, 65536, 0, []⟩,
   ⟨(some 6), .len true (.t 5), none, 65792, 1, []⟩,
   ⟨(some 7), .bin .lss (.t 6) (.k (.int .i64 1)), none, 66048, 2, []⟩,
   ⟨(some 8), .mv (.t 7), none, 66304, 3, []⟩,
   ⟨(some 9), .mv (.t 0), (some (some 8, false)), 66560, 4, []⟩,
   ⟨(some 10), .len true (.t 9), (some (some 8, false)), 66816, 5, []⟩,
   ⟨(some 11), .bin .gtr (.t 10) (.k (.int .i64 8)), (some (some 8, false)), 67072, 6, []⟩,
   ⟨(some 12), .pick (.t 8) (.k (.bool true)) (.t 11), none, 67328, 7, []⟩])
 (.cond (.t 12)
  (.seq (.reg [⟨(some 2), .mv (.k (.bool false)), none, 131072, 0, []⟩])
  (.ret))
  (.skip)))
 (.seq (.seq (.reg [⟨(some 3), .mv (.k (.int .i64 0)), none, 196608, 0, []⟩])
 (.block 0 (.loop [0, 3] []
  (.seq (.seq (.reg [⟨(some 13), .mv (.t 3), none, 262144, 0, []⟩,
    ⟨(some 14), .mv (.t 0), none, 262400, 1, []⟩,
    ⟨(some 15), .len true (.t 14), none, 262656, 2, []⟩,
    ⟨(some 16), .bin .lss (.t 13) (.t 15), none, 262912, 3, []⟩])
  (.cond (.t 16)
   (.skip)
   (.exit 0)))
  (.seq (.block 1 (.seq (.reg [⟨(some 19), .mv (.t 0), none, 393216, 0, []⟩,
    ⟨(some 20), .mv (.t 3), none, 393472, 1, []⟩,
    ⟨(some 21), .idx (.t 19) (.t 20), none, 393728, 2, []⟩,
    ⟨(some 4), .mv (.t 21), none, 393984, 3, []⟩])
  (.seq (.reg [⟨(some 22), .mv (.t 4), none, 458752, 0, []⟩,
    ⟨(some 23), .bin .lss (.t 22) (.k (.int .u8 97)), none, 459008, 1, []⟩,
    ⟨(some 24), .mv (.t 23), none, 459264, 2, []⟩,
    ⟨(some 25), .mv (.t 4), (some (some 24, false)), 459520, 3, []⟩,
    ⟨(some 26), .bin .gtr (.t 25) (.k (.int .u8 122)), (some (some 24, false)), 459776, 4, []⟩,
    ⟨(some 27), .pick (.t 24) (.k (.bool true)) (.t 26), none, 460032, 5, []⟩,
    ⟨(some 28), .mv (.t 27), none, 460288, 6, []⟩,
    ⟨(some 29), .mv (.t 4), (some (some 28, true)), 460544, 7, []⟩,
    ⟨(some 30), .bin .lss (.t 29) (.k (.int .u8 48)), (some (some 28, true)), 460800, 8, []⟩,
    ⟨(some 31), .mv (.t 30), (some (some 28, true)), 461056, 9, []⟩,
    ⟨(some 32), .mv (.t 4), (some (some 31, false)), 461312, 10, []⟩,
    ⟨(some 33), .bin .gtr (.t 32) (.k (.int .u8 57)), (some (some 31, false)), 461568, 11, []⟩,
    ⟨(some 34), .pick (.t 31) (.k (.bool true)) (.t 33), (some (some 28, true)), 461824, 12, []⟩,
    ⟨(some 35), .pick (.t 28) (.t 34) (.k (.bool false)), none, 462080, 13, []⟩])
  (.cond (.t 35)
   (.seq (.reg [⟨(some 2), .mv (.k (.bool false)), none, 524288, 0, []⟩])
   (.ret))
   (.skip)))))
  (.reg [⟨(some 17), .mv (.t 3), none, 327680, 0, []⟩,
    ⟨(some 18), .bin .add (.t 17) (.k (.int .i64 1)), none, 327936, 1, []⟩,
    ⟨(some 3), .mv (.t 18), none, 328192, 2, []⟩]))))))
 (.seq (.reg [⟨(some 2), .mv (.k (.bool true)), none, 589824, 0, []⟩])
 (.ret))))⟩
/-- loop.example/g00849/spec.CodeOk -/
def F54 : F := ⟨1, 5, [.t 2],
 .seq (.reg [⟨(some 1), .box (.t 0), none, 0, 0, []⟩,
   ⟨(some 2), .mv (.k (.bool false)), none, 256, 1, []⟩])
 (.seq (.reg [⟨(some 3), .load 2 true (.t 1), none, 65536, 0, []⟩,
   ⟨(some 4), .call 59 [(.t 3)] true, none, 65792, 1, []⟩,
   ⟨(some 2), .mv (.t 4), none, 66048, 2, []⟩])
 (.ret))⟩
/-- loop.example/g00849/impl.CodeOk -/
def F55 : F := ⟨1, 11, [.t 2],
 .seq (.reg [⟨(some 1), .box (.t 0), none, 0, 0, []⟩,
   ⟨(some 2), .mv (.k (.bool false)), none, 256, 1, []⟩])
 (.seq (.reg [⟨(some 3), .faddr 0 (.t 1), none, 65536, 0, []⟩,
   ⟨(some 4), .load 1 false (.t 3), none, 65792, 1, []⟩,
   ⟨(some 5), .call 36 [(.t 4), (.k (.int .i64 1)), (.k (.int .i64 4))] true, none, 66048, 2, []⟩,
   ⟨(some 6), .mv (.t 5), none, 66304, 3, []⟩,
   ⟨(some 7), .faddr 1 (.t 1), (some (some 6, true)), 66560, 4, []⟩,
   ⟨(some 8), .load 1 false (.t 7), (some (some 6, true)), 66816, 5, []⟩,
   ⟨(some 9), .call 36 [(.t 8), (.k (.int .i64 0)), (.k (.int .i64 3))] true, (some (some 6, true)), 67072, 6, []⟩,
   ⟨(some 10), .pick (.t 6) (.t 9) (.k (.bool false)), none, 67328, 7, []⟩,
   ⟨(some 2), .mv (.t 10), none, 67584, 8, []⟩])
 (.ret))⟩
/-- loop.example/g00849/laws.eqHead -/
def F56 : F := ⟨2, 26, [.t 4],
 .seq (.reg [⟨(some 2), .box (.t 0), none, 0, 0, []⟩,
   ⟨(some 3), .box (.t 1), none, 256, 1, []⟩,
   ⟨(some 4), .mv (.k (.bool false)), none, 512, 2, []⟩])
 (.seq (.seq (.reg [⟨(some 5), .faddr 0 (.t 2), none, 65536, 0, []⟩,
   ⟨(some 6), .load 1 false (.t 5), none, 65792, 1, []⟩,
   ⟨(some 7), .faddr 0 (.t 3), none, 66048, 2, []⟩,
   ⟨(some 8), .load 1 false (.t 7), none, 66304, 3, []⟩,
   ⟨(some 9), .bin .neq (.t 6) (.t 8), none, 66560, 4, []⟩])
 (.cond (.t 9)
  (.seq (.reg [⟨(some 4), .mv (.k (.bool false)), none, 131072, 0, []⟩])
  (.ret))
  (.skip)))
 (.seq (.seq (.reg [⟨(some 10), .faddr 1 (.t 2), none, 196608, 0, []⟩,
   ⟨(some 11), .load 2 true (.t 10), none, 196864, 1, []⟩,
   ⟨(some 12), .faddr 1 (.t 3), none, 197120, 2, []⟩,
   ⟨(some 13), .load 2 true (.t 12), none, 197376, 3, []⟩,
   ⟨(some 14), .call 22 [(.t 11), (.t 13)] true, none, 197632, 4, []⟩,
   ⟨(some 15), .not (.t 14), none, 197888, 5, []⟩])
 (.cond (.t 15)
  (.seq (.reg [⟨(some 4), .mv (.k (.bool false)), none, 262144, 0, []⟩])
  (.ret))
  (.skip)))
 (.seq (.seq (.reg [⟨(some 16), .faddr 3 (.t 2), none, 327680, 0, []⟩,
   ⟨(some 17), .load 1 false (.t 16), none, 327936, 1, []⟩,
   ⟨(some 18), .faddr 3 (.t 3), none, 328192, 2, []⟩,
   ⟨(some 19), .load 1 false (.t 18), none, 328448, 3, []⟩,
   ⟨(some 20), .bin .neq (.t 17) (.t 19), none, 328704, 4, []⟩])
 (.cond (.t 20)
  (.seq (.reg [⟨(some 4), .mv (.k (.bool false)), none, 393216, 0, []⟩])
  (.ret))
  (.skip)))
 (.seq (.seq (.reg [⟨(some 21), .faddr 4 (.t 2), none, 458752, 0, []⟩,
   ⟨(some 22), .load 1 false (.t 21), none, 459008, 1, []⟩,
   ⟨(some 23), .faddr 4 (.t 3), none, 459264, 2, []⟩,
   ⟨(some 24), .load 1 false (.t 23), none, 459520, 3, []⟩,
   ⟨(some 25), .bin .neq (.t 22) (.t 24), none, 459776, 4, []⟩])
 (.cond (.t 25)
  (.seq (.reg [⟨(some 4), .mv (.k (.bool false)), none, 524288, 0, []⟩])
  (.ret))
  (.skip)))
 (.seq (.reg [⟨(some 4), .mv (.k (.bool true)), none, 589824, 0, []⟩])
 (.ret))))))⟩
/-- loop.example/g00849/laws.eqLast -/
def F57 : F := ⟨2, 21, [.t 4],
 .seq (.reg [⟨(some 2), .box (.t 0), none, 0, 0, []⟩,
   ⟨(some 3), .box (.t 1), none, 256, 1, []⟩,
   ⟨(some 4), .mv (.k (.bool false)), none, 512, 2, []⟩])
 (.seq (.seq (.reg [⟨(some 5), .faddr 0 (.t 2), none, 65536, 0, []⟩,
   ⟨(some 6), .load 1 false (.t 5), none, 65792, 1, []⟩,
   ⟨(some 7), .faddr 0 (.t 3), none, 66048, 2, []⟩,
   ⟨(some 8), .load 1 false (.t 7), none, 66304, 3, []⟩,
   ⟨(some 9), .bin .neq (.t 6) (.t 8), none, 66560, 4, []⟩])
 (.cond (.t 9)
  (.seq (.reg [⟨(some 4), .mv (.k (.bool false)), none, 131072, 0, []⟩])
  (.ret))
  (.skip)))
 (.seq (.seq (.reg [⟨(some 10), .faddr 1 (.t 2), none, 196608, 0, []⟩,
   ⟨(some 11), .load 1 false (.t 10), none, 196864, 1, []⟩,
   ⟨(some 12), .faddr 1 (.t 3), none, 197120, 2, []⟩,
   ⟨(some 13), .load 1 false (.t 12), none, 197376, 3, []⟩,
   ⟨(some 14), .bin .neq (.t 11) (.t 13), none, 197632, 4, []⟩])
 (.cond (.t 14)
  (.seq (.reg [⟨(some 4), .mv (.k (.bool false)), none, 262144, 0, []⟩])
  (.ret))
  (.skip)))
 (.seq (.seq (.reg [⟨(some 15), .faddr 2 (.t 2), none, 327680, 0, []⟩,
   ⟨(some 16), .load 2 true (.t 15), none, 327936, 1, []⟩,
   ⟨(some 17), .faddr 2 (.t 3), none, 328192, 2, []⟩,
   ⟨(some 18), .load 2 true (.t 17), none, 328448, 3, []⟩,
   ⟨(some 19), .call 22 [(.t 16), (.t 18)] true, none, 328704, 4, []⟩,
   ⟨(some 20), .not (.t 19), none, 328960, 5, []⟩])
 (.cond (.t 20)
  (.seq (.reg [⟨(some 4), .mv (.k (.bool false)), none, 393216, 0, []⟩])
  (.ret))
  (.skip)))
 (.seq (.reg [⟨(some 4), .mv (.k (.bool true)), none, 458752, 0, []⟩])
 (.ret)))))⟩
/-- loop.example/g00849/laws.markText -/
def F58 : F := ⟨1, 20, [.t 2],
 .seq (.reg [⟨(some 2), .mv (.k (.str ByteArray.empty)), none, 0, 0, []⟩])
 (.seq (.seq (.reg [⟨(some 4), .mv (.t 0), none, 65536, 0, []⟩,
   ⟨(some 5), .bin .leq (.t 4) (.k (.int .i64 0)), none, 65792, 1, []⟩])
 (.cond (.t 5)
  (.seq (.reg [⟨(some 2), .mv (.k (.str ⟨#[109, 48]⟩)), none, 131072, 0, []⟩])
  (.ret))
  (.skip)))
 (.seq (.reg [⟨(some 3), .mv (.k (.str ByteArray.empty)), none, 196608, 0, []⟩])
 (.seq (.block 0 (.loop [0, 3] []
  (.seq (.seq (.reg [⟨(some 6), .mv (.t 0), none, 262144, 0, []⟩,
    ⟨(some 7), .bin .gtr (.t 6) (.k (.int .i64 0)), none, 262400, 1, []⟩])
  (.cond (.t 7)
   (.skip)
   (.exit 0)))
  (.block 1 (.seq (.reg [⟨(some 8), .mv (.t 0), none, 327680, 0, []⟩,
    ⟨(some 9), .bin .rem (.t 8) (.k (.int .i64 10)), none, 327936, 1, []⟩,
    ⟨(some 10), .bin .add (.k (.int .i64 48)) (.t 9), none, 328192, 2, []⟩,
    ⟨(some 11), .conv .u8 (.t 10), none, 328448, 3, []⟩,
    ⟨(some 12), .bslice true 1 [(.int .u8 0)] 1 [(0, (.t 11))], none, 328704, 4, []⟩,
    ⟨(some 13), .b2s (.t 12), none, 328960, 5, []⟩,
    ⟨(some 14), .mv (.t 3), none, 329216, 6, []⟩,
    ⟨(some 15), .bin .add (.t 13) (.t 14), none, 329472, 7, []⟩,
    ⟨(some 3), .mv (.t 15), none, 329728, 8, []⟩])
  (.reg [⟨(some 16), .mv (.t 0), none, 393216, 0, []⟩,
    ⟨(some 17), .bin .quo (.t 16) (.k (.int .i64 10)), none, 393472, 1, []⟩,
    ⟨(some 0), .mv (.t 17), none, 393728, 2, []⟩]))))))
 (.seq (.reg [⟨(some 18), .mv (.t 3), none, 458752, 0, []⟩,
   ⟨(some 19), .bin .add (.k (.str ⟨#[109]⟩)) (.t 18), none, 459008, 1, []⟩,
   ⟨(some 2), .mv (.t 19), none, 459264, 2, []⟩])
 (.ret)))))⟩
/-- loop.example/g00849/spec.l04Code -/
def F59 : F := ⟨1, 11, [.t 2],
 .seq (.reg [⟨(some 1), .box (.t 0), none, 0, 0, []⟩,
   ⟨(some 2), .mv (.k (.bool false)), none, 256, 1, []⟩])
 (.seq (.reg [⟨(some 3), .faddr 0 (.t 1), none, 65536, 0, []⟩,
   ⟨(some 4), .load 1 false (.t 3), none, 65792, 1, []⟩,
   ⟨(some 5), .call 30 [(.t 4), (.k (.int .i64 1)), (.k (.int .i64 4))] true, none, 66048, 2, []⟩,
   ⟨(some 6), .mv (.t 5), none, 66304, 3, []⟩,
   ⟨(some 7), .faddr 1 (.t 1), (some (some 6, true)), 66560, 4, []⟩,
   ⟨(some 8), .load 1 false (.t 7), (some (some 6, true)), 66816, 5, []⟩,
   ⟨(some 9), .call 30 [(.t 8), (.k (.int .i64 0)), (.k (.int .i64 3))] true, (some (some 6, true)), 67072, 6, []⟩,
   ⟨(some 10), .pick (.t 6) (.t 9) (.k (.bool false)), none, 67328, 7, []⟩,
   ⟨(some 2), .mv (.t 10), none, 67584, 8, []⟩])
 (.ret))⟩
def fns : Nat → Option F
  | 3 => some F3
  | 4 => some F4
  | 5 => some F5
  | 6 => some F6
  | 7 => some F7
  | 8 => some F8
  | 9 => some F9
  | 10 => some F10
  | 11 => some F11
  | 12 => some F12
  | 13 => some F13
  | 14 => some F14
  | 15 => some F15
  | 16 => some F16
  | 17 => some F17
  | 18 => some F18
  | 19 => some F19
  | 20 => some F20
  | 21 => some F21
  | 22 => some F22
  | 23 => some F23
  | 24 => some F24
  | 25 => some F25
  | 26 => some F26
  | 27 => some F27
  | 28 => some F28
  | 29 => some F29
  | 30 => some F30
  | 31 => some F31
  | 32 => some F32
  | 33 => some F33
  | 34 => some F34
  | 35 => some F35
  | 36 => some F36
  | 37 => some F37
  | 38 => some F38
  | 39 => some F39
  | 40 => some F40
  | 41 => some F41
  | 42 => some F42
  | 43 => some F43
  | 44 => some F44
  | 45 => some F45
  | 46 => some F46
  | 47 => some F47
  | 48 => some F48
  | 49 => some F49
  | 50 => some F50
  | 51 => some F51
  | 52 => some F52
  | 53 => some F53
  | 54 => some F54
  | 55 => some F55
  | 56 => some F56
  | 57 => some F57
  | 58 => some F58
  | 59 => some F59
  | _ => none
def code : Prog := ⟨fns, md, fun _ => none⟩
theorem fn3 : code.fn 3 = some F3 := rfl
theorem fn4 : code.fn 4 = some F4 := rfl
theorem fn5 : code.fn 5 = some F5 := rfl
theorem fn6 : code.fn 6 = some F6 := rfl
theorem fn7 : code.fn 7 = some F7 := rfl
theorem fn8 : code.fn 8 = some F8 := rfl
theorem fn9 : code.fn 9 = some F9 := rfl
theorem fn10 : code.fn 10 = some F10 := rfl
theorem fn11 : code.fn 11 = some F11 := rfl
theorem fn12 : code.fn 12 = some F12 := rfl
theorem fn13 : code.fn 13 = some F13 := rfl
theorem fn14 : code.fn 14 = some F14 := rfl
theorem fn15 : code.fn 15 = some F15 := rfl
theorem fn16 : code.fn 16 = some F16 := rfl
theorem fn17 : code.fn 17 = some F17 := rfl
theorem fn18 : code.fn 18 = some F18 := rfl
theorem fn19 : code.fn 19 = some F19 := rfl
theorem fn20 : code.fn 20 = some F20 := rfl
theorem fn21 : code.fn 21 = some F21 := rfl
theorem fn22 : code.fn 22 = some F22 := rfl
theorem fn23 : code.fn 23 = some F23 := rfl
theorem fn24 : code.fn 24 = some F24 := rfl
theorem fn25 : code.fn 25 = some F25 := rfl
theorem fn26 : code.fn 26 = some F26 := rfl
theorem fn27 : code.fn 27 = some F27 := rfl
theorem fn28 : code.fn 28 = some F28 := rfl
theorem fn29 : code.fn 29 = some F29 := rfl
theorem fn30 : code.fn 30 = some F30 := rfl
theorem fn31 : code.fn 31 = some F31 := rfl
theorem fn32 : code.fn 32 = some F32 := rfl
theorem fn33 : code.fn 33 = some F33 := rfl
theorem fn34 : code.fn 34 = some F34 := rfl
theorem fn35 : code.fn 35 = some F35 := rfl
theorem fn36 : code.fn 36 = some F36 := rfl
theorem fn37 : code.fn 37 = some F37 := rfl
theorem fn38 : code.fn 38 = some F38 := rfl
theorem fn39 : code.fn 39 = some F39 := rfl
theorem fn40 : code.fn 40 = some F40 := rfl
theorem fn41 : code.fn 41 = some F41 := rfl
theorem fn42 : code.fn 42 = some F42 := rfl
theorem fn43 : code.fn 43 = some F43 := rfl
theorem fn44 : code.fn 44 = some F44 := rfl
theorem fn45 : code.fn 45 = some F45 := rfl
theorem fn46 : code.fn 46 = some F46 := rfl
theorem fn47 : code.fn 47 = some F47 := rfl
theorem fn48 : code.fn 48 = some F48 := rfl
theorem fn49 : code.fn 49 = some F49 := rfl
theorem fn50 : code.fn 50 = some F50 := rfl
theorem fn51 : code.fn 51 = some F51 := rfl
theorem fn52 : code.fn 52 = some F52 := rfl
theorem fn53 : code.fn 53 = some F53 := rfl
theorem fn54 : code.fn 54 = some F54 := rfl
theorem fn55 : code.fn 55 = some F55 := rfl
theorem fn56 : code.fn 56 = some F56 := rfl
theorem fn57 : code.fn 57 = some F57 := rfl
theorem fn58 : code.fn 58 = some F58 := rfl
theorem fn59 : code.fn 59 = some F59 := rfl
theorem rcall {O : Oracle} {st : St} {Q : Ex → St → Prop} {fs : List Fr} {d : Option Nat} {b i : Nat} {ap : List X} {r : List IOp} (f : Nat) (xs : List X) (fl : Bool) : RunO O code.md (⟨d, .call f xs fl, none, b, i, ap⟩ :: r) fs st Q = (quietOk st (.call f xs fl) ap = true ∧ RunQ O code.md (callVal O st b f (evalXs st xs) fl) d r fs st Q) := R_call f xs fl rfl
end Go.Ae.R7
