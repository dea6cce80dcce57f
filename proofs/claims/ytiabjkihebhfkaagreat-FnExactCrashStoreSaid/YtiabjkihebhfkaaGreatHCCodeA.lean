/- The code of the functions, for the evaluator. -/
import Derived.Test.YtiabjkihebhfkaaGreatAeL6
import Derived.Test.YtiabjkihebhfkaaGreatGAN
namespace Go.Ae.GA.B

def md : Nat → Mode
  | 53 => .ref
  | 74 => .ref
  | 75 => .ref
  | 76 => .ref
  | 77 => .ref
  | 134 => .ref
  | _ => .val
def F11 : F := ⟨1, 69, [.t 2],
 .seq (.reg [⟨(some 1), .box (.t 0), none, 0, 0, []⟩,
   ⟨(some 2), .mv (.k (.bool false)), none, 256, 1, []⟩])
 (.seq (.reg [⟨(some 3), .mv (.k (.int .i64 1048576)), none, 65536, 0, []⟩])
 (.seq (.reg [⟨(some 11), .load 2 true (.t 1), none, 131072, 0, []⟩,
   ⟨(some 12), .mv (.t 3), none, 131328, 1, []⟩,
   ⟨(some 13), .call 48 [(.t 11), (.t 12)] true, none, 131584, 2, []⟩,
   ⟨(some 3), .mv (.t 13), none, 131840, 3, []⟩])
 (.seq (.seq (.reg [⟨(some 14), .mv (.t 3), none, 196608, 0, []⟩,
   ⟨(some 15), .bin .lss (.t 14) (.k (.int .i64 0)), none, 196864, 1, []⟩])
 (.cond (.t 15)
  (.seq (.reg [⟨(some 2), .mv (.k (.bool true)), none, 262144, 0, []⟩])
  (.ret))
  (.skip)))
 (.seq (.reg [⟨(some 16), .load 2 true (.t 1), none, 327680, 0, []⟩,
   ⟨(some 17), .call 50 [(.t 16)] false, none, 327936, 1, []⟩,
   ⟨(some 18), .call 49 [(.t 17)] false, none, 328192, 2, []⟩,
   ⟨(some 4), .alloc [(.nil false 12), (.nil false 12)], none, 328448, 3, []⟩,
   ⟨none, .store 2 (.t 4) (.t 18), none, 328704, 4, []⟩])
 (.seq (.reg [⟨(some 19), .load 2 true (.t 1), none, 393216, 0, []⟩,
   ⟨(some 20), .call 50 [(.t 19)] false, none, 393472, 1, []⟩,
   ⟨(some 5), .alloc [(.nil false 12), (.nil false 12)], none, 393728, 2, []⟩,
   ⟨none, .store 2 (.t 5) (.t 20), none, 393984, 3, []⟩])
 (.seq (.reg [⟨(some 21), .load 2 true (.t 5), none, 458752, 0, []⟩,
   ⟨(some 22), .call 51 [(.t 21)] false, none, 459008, 1, []⟩,
   ⟨(some 6), .alloc [(.nil false 12), (.nil false 12)], none, 459264, 2, []⟩,
   ⟨none, .store 2 (.t 6) (.t 22), none, 459520, 3, []⟩])
 (.seq (.seq (.reg [⟨(some 23), .load 2 true (.t 6), none, 524288, 0, []⟩,
   ⟨(some 24), .load 2 true (.t 4), none, 524544, 1, []⟩,
   ⟨(some 25), .call 52 [(.t 23), (.t 24)] true, none, 524800, 2, []⟩,
   ⟨(some 26), .not (.t 25), none, 525056, 3, []⟩])
 (.cond (.t 26)
  (.seq (.reg [⟨(some 2), .mv (.k (.bool false)), none, 589824, 0, []⟩])
  (.ret))
  (.skip)))
 (.seq (.seq (.reg [⟨(some 27), .load 2 true (.t 5), none, 655360, 0, []⟩,
   ⟨(some 28), .load 2 true (.t 1), none, 655616, 1, []⟩,
   ⟨(some 29), .call 50 [(.t 28)] false, none, 655872, 2, []⟩,
   ⟨(some 30), .call 52 [(.t 27), (.t 29)] true, none, 656128, 3, []⟩,
   ⟨(some 31), .not (.t 30), none, 656384, 4, []⟩])
 (.cond (.t 31)
  (.seq (.reg [⟨(some 2), .mv (.k (.bool false)), none, 720896, 0, []⟩])
  (.ret))
  (.skip)))
 (.seq (.reg [⟨(some 7), .mv (.k (.int .i64 1)), none, 786432, 0, []⟩])
 (.seq (.reg [⟨(some 32), .load 2 true (.t 5), none, 851968, 0, []⟩,
   ⟨(some 33), .mv (.t 7), none, 852224, 1, []⟩,
   ⟨(some 34), .call 53 [(.t 32), (.t 33)] true, none, 852480, 2, []⟩,
   ⟨(some 7), .mv (.t 34), none, 852736, 3, []⟩])
 (.seq (.seq (.reg [⟨(some 35), .mv (.t 7), none, 917504, 0, []⟩,
   ⟨(some 36), .bin .lss (.t 35) (.k (.int .i64 0)), none, 917760, 1, []⟩,
   ⟨(some 37), .mv (.t 36), none, 918016, 2, []⟩,
   ⟨(some 38), .load 2 true (.t 6), (some (some 37, false)), 918272, 3, []⟩,
   ⟨(some 39), .load 2 true (.t 4), (some (some 37, false)), 918528, 4, []⟩,
   ⟨(some 40), .call 52 [(.t 38), (.t 39)] true, (some (some 37, false)), 918784, 5, []⟩,
   ⟨(some 41), .not (.t 40), (some (some 37, false)), 919040, 6, []⟩,
   ⟨(some 42), .pick (.t 37) (.k (.bool true)) (.t 41), none, 919296, 7, []⟩])
 (.cond (.t 42)
  (.seq (.reg [⟨(some 2), .mv (.k (.bool false)), none, 983040, 0, []⟩])
  (.ret))
  (.skip)))
 (.seq (.reg [⟨(some 8), .mv (.k (.int .i64 1)), none, 1048576, 0, []⟩])
 (.seq (.reg [⟨(some 43), .load 2 true (.t 6), none, 1114112, 0, []⟩,
   ⟨(some 44), .mv (.t 8), none, 1114368, 1, []⟩,
   ⟨(some 45), .call 53 [(.t 43), (.t 44)] true, none, 1114624, 2, []⟩,
   ⟨(some 8), .mv (.t 45), none, 1114880, 3, []⟩])
 (.seq (.reg [⟨(some 9), .mv (.k (.int .i64 1)), none, 1179648, 0, []⟩])
 (.seq (.reg [⟨(some 46), .load 2 true (.t 6), none, 1245184, 0, []⟩,
   ⟨(some 47), .mv (.t 9), none, 1245440, 1, []⟩,
   ⟨(some 48), .call 54 [(.t 46), (.t 47)] true, none, 1245696, 2, []⟩,
   ⟨(some 9), .mv (.t 48), none, 1245952, 3, []⟩])
 (.seq (.seq (.reg [⟨(some 49), .mv (.t 9), none, 1310720, 0, []⟩,
   ⟨(some 50), .bin .lss (.t 49) (.k (.int .i64 0)), none, 1310976, 1, []⟩])
 (.cond (.t 50)
  (.seq (.reg [⟨(some 2), .mv (.k (.bool false)), none, 1376256, 0, []⟩])
  (.ret))
  (.skip)))
 (.seq (.seq (.reg [⟨(some 51), .mv (.t 9), none, 1441792, 0, []⟩,
   ⟨(some 52), .mv (.t 8), none, 1442048, 1, []⟩,
   ⟨(some 53), .bin .neq (.t 51) (.t 52), none, 1442304, 2, []⟩])
 (.cond (.t 53)
  (.seq (.reg [⟨(some 2), .mv (.k (.bool false)), none, 1507328, 0, []⟩])
  (.ret))
  (.skip)))
 (.seq (.reg [⟨(some 54), .load 2 true (.t 1), none, 1572864, 0, []⟩,
   ⟨(some 55), .call 50 [(.t 54)] false, none, 1573120, 1, []⟩,
   ⟨(some 56), .call 51 [(.t 55)] false, none, 1573376, 2, []⟩,
   ⟨(some 10), .alloc [(.nil false 12), (.nil false 12)], none, 1573632, 3, []⟩,
   ⟨none, .store 2 (.t 10) (.t 56), none, 1573888, 4, []⟩])
 (.seq (.seq (.reg [⟨(some 57), .load 2 true (.t 10), none, 1638400, 0, []⟩,
   ⟨(some 58), .load 2 true (.t 4), none, 1638656, 1, []⟩,
   ⟨(some 59), .call 52 [(.t 57), (.t 58)] true, none, 1638912, 2, []⟩,
   ⟨(some 60), .not (.t 59), none, 1639168, 3, []⟩])
 (.cond (.t 60)
  (.seq (.reg [⟨(some 2), .mv (.k (.bool false)), none, 1703936, 0, []⟩])
  (.ret))
  (.skip)))
 (.seq (.reg [⟨(some 9), .mv (.k (.int .i64 1)), none, 1769472, 0, []⟩])
 (.seq (.reg [⟨(some 61), .load 2 true (.t 6), none, 1835008, 0, []⟩,
   ⟨(some 62), .mv (.t 9), none, 1835264, 1, []⟩,
   ⟨(some 63), .call 54 [(.t 61), (.t 62)] true, none, 1835520, 2, []⟩,
   ⟨(some 9), .mv (.t 63), none, 1835776, 3, []⟩])
 (.seq (.seq (.reg [⟨(some 64), .mv (.t 9), none, 1900544, 0, []⟩,
   ⟨(some 65), .bin .lss (.t 64) (.k (.int .i64 0)), none, 1900800, 1, []⟩])
 (.cond (.t 65)
  (.seq (.reg [⟨(some 2), .mv (.k (.bool false)), none, 1966080, 0, []⟩])
  (.ret))
  (.skip)))
 (.seq (.seq (.reg [⟨(some 66), .mv (.t 9), none, 2031616, 0, []⟩,
   ⟨(some 67), .mv (.t 8), none, 2031872, 1, []⟩,
   ⟨(some 68), .bin .neq (.t 66) (.t 67), none, 2032128, 2, []⟩])
 (.cond (.t 68)
  (.seq (.reg [⟨(some 2), .mv (.k (.bool false)), none, 2097152, 0, []⟩])
  (.ret))
  (.skip)))
 (.seq (.reg [⟨(some 2), .mv (.k (.bool true)), none, 2162688, 0, []⟩])
 (.ret)))))))))))))))))))))))))⟩
def F12 : F := ⟨2, 30, [.t 4],
 .seq (.reg [⟨(some 2), .box (.t 0), none, 0, 0, []⟩,
   ⟨(some 4), .mv (.k (.int .i64 0)), none, 256, 1, []⟩])
 (.seq (.reg [⟨(some 5), .faddr 6 (.t 2), none, 65536, 0, []⟩,
   ⟨(some 6), .load 1 false (.t 5), none, 65792, 1, []⟩,
   ⟨(some 7), .mv (.t 1), none, 66048, 2, []⟩,
   ⟨(some 8), .call 55 [(.t 6), (.t 7)] true, none, 66304, 3, []⟩,
   ⟨(some 1), .mv (.t 8), none, 66560, 4, []⟩])
 (.seq (.seq (.reg [⟨(some 9), .mv (.t 1), none, 131072, 0, []⟩,
   ⟨(some 10), .bin .lss (.t 9) (.k (.int .i64 0)), none, 131328, 1, []⟩])
 (.cond (.t 10)
  (.seq (.reg [⟨(some 4), .mv (.k (.int .i64 (-1))), none, 196608, 0, []⟩])
  (.ret))
  (.skip)))
 (.seq (.reg [⟨(some 11), .faddr 7 (.t 2), none, 262144, 0, []⟩,
   ⟨(some 12), .load 1 false (.t 11), none, 262400, 1, []⟩,
   ⟨(some 13), .mv (.t 1), none, 262656, 2, []⟩,
   ⟨(some 14), .call 56 [(.t 12), (.t 13)] true, none, 262912, 3, []⟩,
   ⟨(some 1), .mv (.t 14), none, 263168, 4, []⟩])
 (.seq (.seq (.reg [⟨(some 15), .mv (.t 1), none, 327680, 0, []⟩,
   ⟨(some 16), .bin .lss (.t 15) (.k (.int .i64 0)), none, 327936, 1, []⟩])
 (.cond (.t 16)
  (.seq (.reg [⟨(some 4), .mv (.k (.int .i64 (-1))), none, 393216, 0, []⟩])
  (.ret))
  (.skip)))
 (.seq (.reg [⟨(some 17), .faddr 8 (.t 2), none, 458752, 0, []⟩,
   ⟨(some 18), .load 1 false (.t 17), none, 459008, 1, []⟩,
   ⟨(some 19), .mv (.t 1), none, 459264, 2, []⟩,
   ⟨(some 20), .call 57 [(.t 18), (.t 19)] true, none, 459520, 3, []⟩,
   ⟨(some 1), .mv (.t 20), none, 459776, 4, []⟩])
 (.seq (.seq (.reg [⟨(some 21), .mv (.t 1), none, 524288, 0, []⟩,
   ⟨(some 22), .bin .lss (.t 21) (.k (.int .i64 0)), none, 524544, 1, []⟩])
 (.cond (.t 22)
  (.seq (.reg [⟨(some 4), .mv (.k (.int .i64 (-1))), none, 589824, 0, []⟩])
  (.ret))
  (.skip)))
 (.seq (.reg [⟨(some 23), .faddr 11 (.t 2), none, 655360, 0, []⟩,
   ⟨(some 24), .load 1 false (.t 23), none, 655616, 1, []⟩,
   ⟨(some 25), .mv (.t 1), none, 655872, 2, []⟩,
   ⟨(some 26), .call 58 [(.t 24), (.t 25)] true, none, 656128, 3, []⟩,
   ⟨(some 1), .mv (.t 26), none, 656384, 4, []⟩])
 (.seq (.seq (.reg [⟨(some 27), .mv (.t 1), none, 720896, 0, []⟩,
   ⟨(some 28), .bin .lss (.t 27) (.k (.int .i64 0)), none, 721152, 1, []⟩])
 (.cond (.t 28)
  (.seq (.reg [⟨(some 4), .mv (.k (.int .i64 (-1))), none, 786432, 0, []⟩])
  (.ret))
  (.skip)))
 (.seq (.reg [⟨(some 29), .mv (.t 1), none, 851968, 0, []⟩,
   ⟨(some 4), .mv (.t 29), none, 852224, 1, []⟩])
 (.ret))))))))))⟩
def F14 : F := ⟨1, 39, [.cell 2 12 true],
 .seq (.reg [⟨(some 1), .box (.t 0), none, 0, 0, []⟩,
   ⟨(some 2), .alloc [(.int .i64 0), (.int .i64 0), (.int .i64 0), (.int .i64 0), (.int .i64 0), (.int .i64 0), (.nil true 5), (.nil true 4), (.nil true 10), (.int .i64 0), (.int .i64 0), (.nil true 6)], none, 256, 1, []⟩])
 (.seq (.reg [⟨(some 3), .alloc [(.int .i64 0), (.int .i64 0), (.int .i64 0), (.int .i64 0), (.int .i64 0), (.int .i64 0), (.nil true 5), (.nil true 4), (.nil true 10), (.int .i64 0), (.int .i64 0), (.nil true 6)], none, 65536, 0, []⟩])
 (.seq (.reg [⟨(some 4), .faddr 0 (.t 1), none, 131072, 0, []⟩,
   ⟨(some 5), .load 2 true (.t 4), none, 131328, 1, []⟩,
   ⟨(some 6), .call 61 [(.t 5)] true, none, 131584, 2, []⟩,
   ⟨(some 7), .faddr 0 (.t 3), none, 131840, 3, []⟩,
   ⟨none, .stm 2 (.t 7) (.t 6), none, 132096, 4, []⟩])
 (.seq (.reg [⟨(some 8), .faddr 2 (.t 1), none, 196608, 0, []⟩,
   ⟨(some 9), .load 1 false (.t 8), none, 196864, 1, []⟩,
   ⟨(some 10), .faddr 2 (.t 3), none, 197120, 2, []⟩,
   ⟨none, .stm 1 (.t 10) (.t 9), none, 197376, 3, []⟩])
 (.seq (.reg [⟨(some 11), .faddr 3 (.t 1), none, 262144, 0, []⟩,
   ⟨(some 12), .load 1 false (.t 11), none, 262400, 1, []⟩,
   ⟨(some 13), .faddr 3 (.t 3), none, 262656, 2, []⟩,
   ⟨none, .stm 1 (.t 13) (.t 12), none, 262912, 3, []⟩])
 (.seq (.reg [⟨(some 14), .faddr 4 (.t 1), none, 327680, 0, []⟩,
   ⟨(some 15), .load 2 true (.t 14), none, 327936, 1, []⟩,
   ⟨(some 16), .call 20 [(.t 15)] true, none, 328192, 2, []⟩,
   ⟨(some 17), .faddr 4 (.t 3), none, 328448, 3, []⟩,
   ⟨none, .stm 2 (.t 17) (.t 16), none, 328704, 4, []⟩])
 (.seq (.reg [⟨(some 18), .faddr 6 (.t 1), none, 393216, 0, []⟩,
   ⟨(some 19), .load 1 false (.t 18), none, 393472, 1, []⟩,
   ⟨(some 20), .call 62 [(.t 19)] false, none, 393728, 2, []⟩,
   ⟨(some 21), .faddr 6 (.t 3), none, 393984, 3, []⟩,
   ⟨none, .stm 1 (.t 21) (.t 20), none, 394240, 4, []⟩])
 (.seq (.reg [⟨(some 22), .faddr 7 (.t 1), none, 458752, 0, []⟩,
   ⟨(some 23), .load 1 false (.t 22), none, 459008, 1, []⟩,
   ⟨(some 24), .call 63 [(.t 23)] false, none, 459264, 2, []⟩,
   ⟨(some 25), .faddr 7 (.t 3), none, 459520, 3, []⟩,
   ⟨none, .stm 1 (.t 25) (.t 24), none, 459776, 4, []⟩])
 (.seq (.reg [⟨(some 26), .faddr 8 (.t 1), none, 524288, 0, []⟩,
   ⟨(some 27), .load 1 false (.t 26), none, 524544, 1, []⟩,
   ⟨(some 28), .call 64 [(.t 27)] false, none, 524800, 2, []⟩,
   ⟨(some 29), .faddr 8 (.t 3), none, 525056, 3, []⟩,
   ⟨none, .stm 1 (.t 29) (.t 28), none, 525312, 4, []⟩])
 (.seq (.reg [⟨(some 30), .faddr 9 (.t 1), none, 589824, 0, []⟩,
   ⟨(some 31), .load 2 true (.t 30), none, 590080, 1, []⟩,
   ⟨(some 32), .call 20 [(.t 31)] true, none, 590336, 2, []⟩,
   ⟨(some 33), .faddr 9 (.t 3), none, 590592, 3, []⟩,
   ⟨none, .stm 2 (.t 33) (.t 32), none, 590848, 4, []⟩])
 (.seq (.reg [⟨(some 34), .faddr 11 (.t 1), none, 655360, 0, []⟩,
   ⟨(some 35), .load 1 false (.t 34), none, 655616, 1, []⟩,
   ⟨(some 36), .call 65 [(.t 35)] false, none, 655872, 2, []⟩,
   ⟨(some 37), .faddr 11 (.t 3), none, 656128, 3, []⟩,
   ⟨none, .stm 1 (.t 37) (.t 36), none, 656384, 4, []⟩])
 (.seq (.reg [⟨(some 38), .load 12 true (.t 3), none, 720896, 0, []⟩,
   ⟨none, .stm 12 (.t 2) (.t 38), none, 721152, 1, []⟩])
 (.ret))))))))))))⟩
def F16 : F := ⟨2, 57, [.t 4],
 .seq (.reg [⟨(some 2), .box (.t 0), none, 0, 0, []⟩,
   ⟨(some 3), .box (.t 1), none, 256, 1, []⟩,
   ⟨(some 4), .mv (.k (.bool false)), none, 512, 2, []⟩])
 (.seq (.seq (.reg [⟨(some 5), .faddr 0 (.t 2), none, 65536, 0, []⟩,
   ⟨(some 6), .load 2 true (.t 5), none, 65792, 1, []⟩,
   ⟨(some 7), .faddr 0 (.t 3), none, 66048, 2, []⟩,
   ⟨(some 8), .load 2 true (.t 7), none, 66304, 3, []⟩,
   ⟨(some 9), .call 68 [(.t 6), (.t 8)] true, none, 66560, 4, []⟩,
   ⟨(some 10), .not (.t 9), none, 66816, 5, []⟩])
 (.cond (.t 10)
  (.seq (.reg [⟨(some 4), .mv (.k (.bool false)), none, 131072, 0, []⟩])
  (.ret))
  (.skip)))
 (.seq (.seq (.reg [⟨(some 11), .faddr 2 (.t 2), none, 196608, 0, []⟩,
   ⟨(some 12), .load 1 false (.t 11), none, 196864, 1, []⟩,
   ⟨(some 13), .faddr 2 (.t 3), none, 197120, 2, []⟩,
   ⟨(some 14), .load 1 false (.t 13), none, 197376, 3, []⟩,
   ⟨(some 15), .bin .neq (.t 12) (.t 14), none, 197632, 4, []⟩])
 (.cond (.t 15)
  (.seq (.reg [⟨(some 4), .mv (.k (.bool false)), none, 262144, 0, []⟩])
  (.ret))
  (.skip)))
 (.seq (.seq (.reg [⟨(some 16), .faddr 3 (.t 2), none, 327680, 0, []⟩,
   ⟨(some 17), .load 1 false (.t 16), none, 327936, 1, []⟩,
   ⟨(some 18), .faddr 3 (.t 3), none, 328192, 2, []⟩,
   ⟨(some 19), .load 1 false (.t 18), none, 328448, 3, []⟩,
   ⟨(some 20), .bin .neq (.t 17) (.t 19), none, 328704, 4, []⟩])
 (.cond (.t 20)
  (.seq (.reg [⟨(some 4), .mv (.k (.bool false)), none, 393216, 0, []⟩])
  (.ret))
  (.skip)))
 (.seq (.seq (.reg [⟨(some 21), .faddr 4 (.t 2), none, 458752, 0, []⟩,
   ⟨(some 22), .load 2 true (.t 21), none, 459008, 1, []⟩,
   ⟨(some 23), .faddr 4 (.t 3), none, 459264, 2, []⟩,
   ⟨(some 24), .load 2 true (.t 23), none, 459520, 3, []⟩,
   ⟨(some 25), .call 69 [(.t 22), (.t 24)] true, none, 459776, 4, []⟩,
   ⟨(some 26), .not (.t 25), none, 460032, 5, []⟩])
 (.cond (.t 26)
  (.seq (.reg [⟨(some 4), .mv (.k (.bool false)), none, 524288, 0, []⟩])
  (.ret))
  (.skip)))
 (.seq (.seq (.reg [⟨(some 27), .faddr 6 (.t 2), none, 589824, 0, []⟩,
   ⟨(some 28), .load 1 false (.t 27), none, 590080, 1, []⟩,
   ⟨(some 29), .faddr 6 (.t 3), none, 590336, 2, []⟩,
   ⟨(some 30), .load 1 false (.t 29), none, 590592, 3, []⟩,
   ⟨(some 31), .call 70 [(.t 28), (.t 30)] true, none, 590848, 4, []⟩,
   ⟨(some 32), .not (.t 31), none, 591104, 5, []⟩])
 (.cond (.t 32)
  (.seq (.reg [⟨(some 4), .mv (.k (.bool false)), none, 655360, 0, []⟩])
  (.ret))
  (.skip)))
 (.seq (.seq (.reg [⟨(some 33), .faddr 7 (.t 2), none, 720896, 0, []⟩,
   ⟨(some 34), .load 1 false (.t 33), none, 721152, 1, []⟩,
   ⟨(some 35), .faddr 7 (.t 3), none, 721408, 2, []⟩,
   ⟨(some 36), .load 1 false (.t 35), none, 721664, 3, []⟩,
   ⟨(some 37), .call 71 [(.t 34), (.t 36)] true, none, 721920, 4, []⟩,
   ⟨(some 38), .not (.t 37), none, 722176, 5, []⟩])
 (.cond (.t 38)
  (.seq (.reg [⟨(some 4), .mv (.k (.bool false)), none, 786432, 0, []⟩])
  (.ret))
  (.skip)))
 (.seq (.seq (.reg [⟨(some 39), .faddr 8 (.t 2), none, 851968, 0, []⟩,
   ⟨(some 40), .load 1 false (.t 39), none, 852224, 1, []⟩,
   ⟨(some 41), .faddr 8 (.t 3), none, 852480, 2, []⟩,
   ⟨(some 42), .load 1 false (.t 41), none, 852736, 3, []⟩,
   ⟨(some 43), .call 72 [(.t 40), (.t 42)] true, none, 852992, 4, []⟩,
   ⟨(some 44), .not (.t 43), none, 853248, 5, []⟩])
 (.cond (.t 44)
  (.seq (.reg [⟨(some 4), .mv (.k (.bool false)), none, 917504, 0, []⟩])
  (.ret))
  (.skip)))
 (.seq (.seq (.reg [⟨(some 45), .faddr 9 (.t 2), none, 983040, 0, []⟩,
   ⟨(some 46), .load 2 true (.t 45), none, 983296, 1, []⟩,
   ⟨(some 47), .faddr 9 (.t 3), none, 983552, 2, []⟩,
   ⟨(some 48), .load 2 true (.t 47), none, 983808, 3, []⟩,
   ⟨(some 49), .call 69 [(.t 46), (.t 48)] true, none, 984064, 4, []⟩,
   ⟨(some 50), .not (.t 49), none, 984320, 5, []⟩])
 (.cond (.t 50)
  (.seq (.reg [⟨(some 4), .mv (.k (.bool false)), none, 1048576, 0, []⟩])
  (.ret))
  (.skip)))
 (.seq (.seq (.reg [⟨(some 51), .faddr 11 (.t 2), none, 1114112, 0, []⟩,
   ⟨(some 52), .load 1 false (.t 51), none, 1114368, 1, []⟩,
   ⟨(some 53), .faddr 11 (.t 3), none, 1114624, 2, []⟩,
   ⟨(some 54), .load 1 false (.t 53), none, 1114880, 3, []⟩,
   ⟨(some 55), .call 73 [(.t 52), (.t 54)] true, none, 1115136, 4, []⟩,
   ⟨(some 56), .not (.t 55), none, 1115392, 5, []⟩])
 (.cond (.t 56)
  (.seq (.reg [⟨(some 4), .mv (.k (.bool false)), none, 1179648, 0, []⟩])
  (.ret))
  (.skip)))
 (.seq (.reg [⟨(some 4), .mv (.k (.bool true)), none, 1245184, 0, []⟩])
 (.ret)))))))))))⟩
def F20 : F := ⟨1, 11, [.cell 2 2 true],
 .seq (.reg [⟨(some 1), .box (.t 0), none, 0, 0, []⟩,
   ⟨(some 2), .alloc [(.int .i64 0), (.int .i64 0)], none, 256, 1, []⟩])
 (.seq (.reg [⟨(some 3), .alloc [(.int .i64 0), (.int .i64 0)], none, 65536, 0, []⟩])
 (.seq (.reg [⟨(some 4), .faddr 0 (.t 1), none, 131072, 0, []⟩,
   ⟨(some 5), .load 1 false (.t 4), none, 131328, 1, []⟩,
   ⟨(some 6), .faddr 0 (.t 3), none, 131584, 2, []⟩,
   ⟨none, .store 1 (.t 6) (.t 5), none, 131840, 3, []⟩])
 (.seq (.reg [⟨(some 7), .faddr 1 (.t 1), none, 196608, 0, []⟩,
   ⟨(some 8), .load 1 false (.t 7), none, 196864, 1, []⟩,
   ⟨(some 9), .faddr 1 (.t 3), none, 197120, 2, []⟩,
   ⟨none, .store 1 (.t 9) (.t 8), none, 197376, 3, []⟩])
 (.seq (.reg [⟨(some 10), .load 2 true (.t 3), none, 262144, 0, []⟩,
   ⟨none, .store 2 (.t 2) (.t 10), none, 262400, 1, []⟩])
 (.ret)))))⟩
def F22 : F := ⟨2, 20, [.t 4],
 .seq (.reg [⟨(some 2), .box (.t 0), none, 0, 0, []⟩,
   ⟨(some 4), .mv (.k (.int .i64 0)), none, 256, 1, []⟩])
 (.seq (.reg [⟨(some 5), .mv (.t 1), none, 65536, 0, []⟩,
   ⟨(some 6), .faddr 0 (.t 2), none, 65792, 1, []⟩,
   ⟨(some 7), .load 1 false (.t 6), none, 66048, 2, []⟩,
   ⟨(some 8), .len true (.t 7), none, 66304, 3, []⟩,
   ⟨(some 9), .bin .sub (.t 5) (.t 8), none, 66560, 4, []⟩,
   ⟨(some 1), .mv (.t 9), none, 66816, 5, []⟩])
 (.seq (.seq (.reg [⟨(some 10), .mv (.t 1), none, 131072, 0, []⟩,
   ⟨(some 11), .bin .lss (.t 10) (.k (.int .i64 0)), none, 131328, 1, []⟩])
 (.cond (.t 11)
  (.seq (.reg [⟨(some 4), .mv (.k (.int .i64 (-1))), none, 196608, 0, []⟩])
  (.ret))
  (.skip)))
 (.seq (.reg [⟨(some 12), .mv (.t 1), none, 262144, 0, []⟩,
   ⟨(some 13), .faddr 5 (.t 2), none, 262400, 1, []⟩,
   ⟨(some 14), .load 1 false (.t 13), none, 262656, 2, []⟩,
   ⟨(some 15), .len true (.t 14), none, 262912, 3, []⟩,
   ⟨(some 16), .bin .sub (.t 12) (.t 15), none, 263168, 4, []⟩,
   ⟨(some 1), .mv (.t 16), none, 263424, 5, []⟩])
 (.seq (.seq (.reg [⟨(some 17), .mv (.t 1), none, 327680, 0, []⟩,
   ⟨(some 18), .bin .lss (.t 17) (.k (.int .i64 0)), none, 327936, 1, []⟩])
 (.cond (.t 18)
  (.seq (.reg [⟨(some 4), .mv (.k (.int .i64 (-1))), none, 393216, 0, []⟩])
  (.ret))
  (.skip)))
 (.seq (.reg [⟨(some 19), .mv (.t 1), none, 458752, 0, []⟩,
   ⟨(some 4), .mv (.t 19), none, 459008, 1, []⟩])
 (.ret))))))⟩
def F24 : F := ⟨1, 21, [.cell 2 6 true],
 .seq (.reg [⟨(some 1), .box (.t 0), none, 0, 0, []⟩,
   ⟨(some 2), .alloc [(.str ByteArray.empty), (.int .i64 0), (.int .i64 0), (.int .i64 0), (.int .i64 0), (.str ByteArray.empty)], none, 256, 1, []⟩])
 (.seq (.reg [⟨(some 3), .alloc [(.str ByteArray.empty), (.int .i64 0), (.int .i64 0), (.int .i64 0), (.int .i64 0), (.str ByteArray.empty)], none, 65536, 0, []⟩])
 (.seq (.reg [⟨(some 4), .faddr 0 (.t 1), none, 131072, 0, []⟩,
   ⟨(some 5), .load 1 false (.t 4), none, 131328, 1, []⟩,
   ⟨(some 6), .faddr 0 (.t 3), none, 131584, 2, []⟩,
   ⟨none, .store 1 (.t 6) (.t 5), none, 131840, 3, []⟩])
 (.seq (.reg [⟨(some 7), .faddr 1 (.t 1), none, 196608, 0, []⟩,
   ⟨(some 8), .load 2 true (.t 7), none, 196864, 1, []⟩,
   ⟨(some 9), .call 20 [(.t 8)] true, none, 197120, 2, []⟩,
   ⟨(some 10), .faddr 1 (.t 3), none, 197376, 3, []⟩,
   ⟨none, .store 2 (.t 10) (.t 9), none, 197632, 4, []⟩])
 (.seq (.reg [⟨(some 11), .faddr 3 (.t 1), none, 262144, 0, []⟩,
   ⟨(some 12), .load 1 false (.t 11), none, 262400, 1, []⟩,
   ⟨(some 13), .faddr 3 (.t 3), none, 262656, 2, []⟩,
   ⟨none, .store 1 (.t 13) (.t 12), none, 262912, 3, []⟩])
 (.seq (.reg [⟨(some 14), .faddr 4 (.t 1), none, 327680, 0, []⟩,
   ⟨(some 15), .load 1 false (.t 14), none, 327936, 1, []⟩,
   ⟨(some 16), .faddr 4 (.t 3), none, 328192, 2, []⟩,
   ⟨none, .store 1 (.t 16) (.t 15), none, 328448, 3, []⟩])
 (.seq (.reg [⟨(some 17), .faddr 5 (.t 1), none, 393216, 0, []⟩,
   ⟨(some 18), .load 1 false (.t 17), none, 393472, 1, []⟩,
   ⟨(some 19), .faddr 5 (.t 3), none, 393728, 2, []⟩,
   ⟨none, .store 1 (.t 19) (.t 18), none, 393984, 3, []⟩])
 (.seq (.reg [⟨(some 20), .load 6 true (.t 3), none, 458752, 0, []⟩,
   ⟨none, .store 6 (.t 2) (.t 20), none, 459008, 1, []⟩])
 (.ret))))))))⟩
def F29 : F := ⟨1, 62, [.t 2],
 .seq (.reg [⟨(some 1), .box (.t 0), none, 0, 0, []⟩,
   ⟨(some 2), .mv (.k (.bool false)), none, 256, 1, []⟩])
 (.seq (.seq (.reg [⟨(some 3), .faddr 0 (.t 1), none, 65536, 0, []⟩,
   ⟨(some 4), .load 2 true (.t 3), none, 65792, 1, []⟩,
   ⟨(some 5), .call 96 [(.t 4)] true, none, 66048, 2, []⟩,
   ⟨(some 6), .not (.t 5), none, 66304, 3, []⟩,
   ⟨(some 7), .mv (.t 6), none, 66560, 4, []⟩,
   ⟨(some 8), .faddr 2 (.t 1), (some (some 7, false)), 66816, 5, []⟩,
   ⟨(some 9), .load 1 false (.t 8), (some (some 7, false)), 67072, 6, []⟩,
   ⟨(some 10), .call 97 [(.t 9), (.k (.int .i64 0)), (.k (.int .i64 60))] true, (some (some 7, false)), 67328, 7, []⟩,
   ⟨(some 11), .not (.t 10), (some (some 7, false)), 67584, 8, []⟩,
   ⟨(some 12), .pick (.t 7) (.k (.bool true)) (.t 11), none, 67840, 9, []⟩,
   ⟨(some 13), .mv (.t 12), none, 68096, 10, []⟩,
   ⟨(some 14), .faddr 3 (.t 1), (some (some 13, false)), 68352, 11, []⟩,
   ⟨(some 15), .load 1 false (.t 14), (some (some 13, false)), 68608, 12, []⟩,
   ⟨(some 16), .faddr 2 (.t 1), (some (some 13, false)), 68864, 13, []⟩,
   ⟨(some 17), .load 1 false (.t 16), (some (some 13, false)), 69120, 14, []⟩,
   ⟨(some 18), .call 97 [(.t 15), (.k (.int .i64 0)), (.t 17)] true, (some (some 13, false)), 69376, 15, []⟩,
   ⟨(some 19), .not (.t 18), (some (some 13, false)), 69632, 16, []⟩,
   ⟨(some 20), .pick (.t 13) (.k (.bool true)) (.t 19), none, 69888, 17, []⟩,
   ⟨(some 21), .mv (.t 20), none, 70144, 18, []⟩,
   ⟨(some 22), .faddr 4 (.t 1), (some (some 21, false)), 70400, 19, []⟩,
   ⟨(some 23), .load 2 true (.t 22), (some (some 21, false)), 70656, 20, []⟩,
   ⟨(some 24), .call 98 [(.t 23)] true, (some (some 21, false)), 70912, 21, []⟩,
   ⟨(some 25), .not (.t 24), (some (some 21, false)), 71168, 22, []⟩,
   ⟨(some 26), .pick (.t 21) (.k (.bool true)) (.t 25), none, 71424, 23, []⟩,
   ⟨(some 27), .mv (.t 26), none, 71680, 24, []⟩,
   ⟨(some 28), .faddr 9 (.t 1), (some (some 27, false)), 71936, 25, []⟩,
   ⟨(some 29), .load 2 true (.t 28), (some (some 27, false)), 72192, 26, []⟩,
   ⟨(some 30), .call 98 [(.t 29)] true, (some (some 27, false)), 72448, 27, []⟩,
   ⟨(some 31), .not (.t 30), (some (some 27, false)), 72704, 28, []⟩,
   ⟨(some 32), .pick (.t 27) (.k (.bool true)) (.t 31), none, 72960, 29, []⟩])
 (.cond (.t 32)
  (.seq (.reg [⟨(some 2), .mv (.k (.bool false)), none, 131072, 0, []⟩])
  (.ret))
  (.skip)))
 (.seq (.reg [⟨(some 33), .faddr 6 (.t 1), none, 196608, 0, []⟩,
   ⟨(some 34), .load 1 false (.t 33), none, 196864, 1, []⟩,
   ⟨(some 35), .faddr 4 (.t 1), none, 197120, 2, []⟩,
   ⟨(some 36), .load 2 true (.t 35), none, 197376, 3, []⟩,
   ⟨(some 37), .call 99 [(.t 34), (.t 36)] true, none, 197632, 4, []⟩,
   ⟨(some 38), .mv (.t 37), none, 197888, 5, []⟩,
   ⟨(some 39), .faddr 7 (.t 1), (some (some 38, true)), 198144, 6, []⟩,
   ⟨(some 40), .load 1 false (.t 39), (some (some 38, true)), 198400, 7, []⟩,
   ⟨(some 41), .faddr 4 (.t 1), (some (some 38, true)), 198656, 8, []⟩,
   ⟨(some 42), .load 2 true (.t 41), (some (some 38, true)), 198912, 9, []⟩,
   ⟨(some 43), .call 100 [(.t 40), (.t 42)] true, (some (some 38, true)), 199168, 10, []⟩,
   ⟨(some 44), .pick (.t 38) (.t 43) (.k (.bool false)), none, 199424, 11, []⟩,
   ⟨(some 45), .mv (.t 44), none, 199680, 12, []⟩,
   ⟨(some 46), .load 12 true (.t 1), (some (some 45, true)), 199936, 13, []⟩,
   ⟨(some 47), .call 101 [(.t 46)] true, (some (some 45, true)), 200192, 14, []⟩,
   ⟨(some 48), .pick (.t 45) (.t 47) (.k (.bool false)), none, 200448, 15, []⟩,
   ⟨(some 49), .mv (.t 48), none, 200704, 16, []⟩,
   ⟨(some 50), .load 12 true (.t 1), (some (some 49, true)), 200960, 17, []⟩,
   ⟨(some 51), .call 102 [(.t 50)] true, (some (some 49, true)), 201216, 18, []⟩,
   ⟨(some 52), .faddr 9 (.t 1), (some (some 49, true)), 201472, 19, []⟩,
   ⟨(some 53), .load 2 true (.t 52), (some (some 49, true)), 201728, 20, []⟩,
   ⟨(some 54), .call 83 [(.t 51), (.t 53)] true, (some (some 49, true)), 201984, 21, []⟩,
   ⟨(some 55), .not (.t 54), (some (some 49, true)), 202240, 22, []⟩,
   ⟨(some 56), .pick (.t 49) (.t 55) (.k (.bool false)), none, 202496, 23, []⟩,
   ⟨(some 57), .mv (.t 56), none, 202752, 24, []⟩,
   ⟨(some 58), .faddr 11 (.t 1), (some (some 57, true)), 203008, 25, []⟩,
   ⟨(some 59), .load 1 false (.t 58), (some (some 57, true)), 203264, 26, []⟩,
   ⟨(some 60), .call 103 [(.t 59)] true, (some (some 57, true)), 203520, 27, []⟩,
   ⟨(some 61), .pick (.t 57) (.t 60) (.k (.bool false)), none, 203776, 28, []⟩,
   ⟨(some 2), .mv (.t 61), none, 204032, 29, []⟩])
 (.ret)))⟩
def F38 : F := ⟨2, 9, [.t 4],
 .seq (.reg [⟨(some 2), .box (.t 0), none, 0, 0, []⟩,
   ⟨(some 3), .box (.t 1), none, 256, 1, []⟩,
   ⟨(some 4), .mv (.k (.bool false)), none, 512, 2, []⟩])
 (.seq (.reg [⟨(some 5), .load 2 true (.t 2), none, 65536, 0, []⟩,
   ⟨(some 6), .load 2 true (.t 3), none, 65792, 1, []⟩,
   ⟨(some 7), .call 111 [(.t 5), (.t 6)] true, none, 66048, 2, []⟩,
   ⟨(some 8), .bin .lss (.t 7) (.k (.int .i64 0)), none, 66304, 3, []⟩,
   ⟨(some 4), .mv (.t 8), none, 66560, 4, []⟩])
 (.ret))⟩
def F48 : F := ⟨2, 18, [.t 4],
 .seq (.reg [⟨(some 2), .box (.t 0), none, 0, 0, []⟩,
   ⟨(some 4), .mv (.k (.int .i64 0)), none, 256, 1, []⟩])
 (.seq (.reg [⟨(some 5), .faddr 0 (.t 2), none, 65536, 0, []⟩,
   ⟨(some 6), .load 1 false (.t 5), none, 65792, 1, []⟩,
   ⟨(some 7), .mv (.t 1), none, 66048, 2, []⟩,
   ⟨(some 8), .call 127 [(.t 6), (.t 7)] true, none, 66304, 3, []⟩,
   ⟨(some 1), .mv (.t 8), none, 66560, 4, []⟩])
 (.seq (.seq (.reg [⟨(some 9), .mv (.t 1), none, 131072, 0, []⟩,
   ⟨(some 10), .bin .lss (.t 9) (.k (.int .i64 0)), none, 131328, 1, []⟩])
 (.cond (.t 10)
  (.seq (.reg [⟨(some 4), .mv (.k (.int .i64 (-1))), none, 196608, 0, []⟩])
  (.ret))
  (.skip)))
 (.seq (.reg [⟨(some 11), .faddr 1 (.t 2), none, 262144, 0, []⟩,
   ⟨(some 12), .load 1 false (.t 11), none, 262400, 1, []⟩,
   ⟨(some 13), .mv (.t 1), none, 262656, 2, []⟩,
   ⟨(some 14), .call 127 [(.t 12), (.t 13)] true, none, 262912, 3, []⟩,
   ⟨(some 1), .mv (.t 14), none, 263168, 4, []⟩])
 (.seq (.seq (.reg [⟨(some 15), .mv (.t 1), none, 327680, 0, []⟩,
   ⟨(some 16), .bin .lss (.t 15) (.k (.int .i64 0)), none, 327936, 1, []⟩])
 (.cond (.t 16)
  (.seq (.reg [⟨(some 4), .mv (.k (.int .i64 (-1))), none, 393216, 0, []⟩])
  (.ret))
  (.skip)))
 (.seq (.reg [⟨(some 17), .mv (.t 1), none, 458752, 0, []⟩,
   ⟨(some 4), .mv (.t 17), none, 459008, 1, []⟩])
 (.ret))))))⟩
def F49 : F := ⟨1, 14, [.cell 2 2 true],
 .seq (.reg [⟨(some 1), .box (.t 0), none, 0, 0, []⟩,
   ⟨(some 2), .alloc [(.nil false 12), (.nil false 12)], none, 256, 1, []⟩])
 (.seq (.seq (.reg [⟨(some 3), .load 2 true (.t 1), none, 65536, 0, []⟩,
   ⟨(some 4), .call 128 [(.t 3)] true, none, 65792, 1, []⟩,
   ⟨(some 5), .not (.t 4), none, 66048, 2, []⟩])
 (.cond (.t 5)
  (.seq (.reg [⟨(some 6), .build [(.nil false 12), (.nil false 12)] [], none, 131072, 0, []⟩,
    ⟨none, .stm 2 (.t 2) (.t 6), none, 131328, 1, []⟩])
  (.ret))
  (.skip)))
 (.seq (.reg [⟨(some 7), .faddr 1 (.t 1), none, 196608, 0, []⟩,
   ⟨(some 8), .load 1 false (.t 7), none, 196864, 1, []⟩,
   ⟨(some 9), .call 129 [(.t 8)] false, none, 197120, 2, [(.t 1)]⟩,
   ⟨(some 10), .faddr 1 (.t 1), none, 197376, 3, []⟩,
   ⟨(some 11), .load 1 false (.t 10), none, 197632, 4, [(.t 1)]⟩,
   ⟨(some 12), .call 129 [(.t 11)] false, none, 197888, 5, []⟩,
   ⟨(some 13), .build [(.nil false 12), (.nil false 12)] [(0, 1, (.t 9)), (1, 1, (.t 12))], none, 198144, 6, []⟩,
   ⟨none, .stm 2 (.t 2) (.t 13), none, 198400, 7, []⟩])
 (.ret)))⟩
def F50 : F := ⟨1, 13, [.cell 2 2 true],
 .seq (.reg [⟨(some 1), .box (.t 0), none, 0, 0, []⟩,
   ⟨(some 2), .alloc [(.nil false 12), (.nil false 12)], none, 256, 1, []⟩])
 (.seq (.reg [⟨(some 3), .alloc [(.nil false 12), (.nil false 12)], none, 65536, 0, []⟩])
 (.seq (.reg [⟨(some 4), .faddr 0 (.t 1), none, 131072, 0, []⟩,
   ⟨(some 5), .load 1 false (.t 4), none, 131328, 1, []⟩,
   ⟨(some 6), .call 130 [(.t 5)] false, none, 131584, 2, []⟩,
   ⟨(some 7), .faddr 0 (.t 3), none, 131840, 3, []⟩,
   ⟨none, .stm 1 (.t 7) (.t 6), none, 132096, 4, []⟩])
 (.seq (.reg [⟨(some 8), .faddr 1 (.t 1), none, 196608, 0, []⟩,
   ⟨(some 9), .load 1 false (.t 8), none, 196864, 1, []⟩,
   ⟨(some 10), .call 130 [(.t 9)] false, none, 197120, 2, []⟩,
   ⟨(some 11), .faddr 1 (.t 3), none, 197376, 3, []⟩,
   ⟨none, .stm 1 (.t 11) (.t 10), none, 197632, 4, []⟩])
 (.seq (.reg [⟨(some 12), .load 2 true (.t 3), none, 262144, 0, []⟩,
   ⟨none, .stm 2 (.t 2) (.t 12), none, 262400, 1, []⟩])
 (.ret)))))⟩
def F51 : F := ⟨1, 14, [.cell 2 2 true],
 .seq (.reg [⟨(some 1), .box (.t 0), none, 0, 0, []⟩,
   ⟨(some 2), .alloc [(.nil false 12), (.nil false 12)], none, 256, 1, []⟩])
 (.seq (.seq (.reg [⟨(some 3), .load 2 true (.t 1), none, 65536, 0, []⟩,
   ⟨(some 4), .call 131 [(.t 3)] true, none, 65792, 1, []⟩,
   ⟨(some 5), .not (.t 4), none, 66048, 2, []⟩])
 (.cond (.t 5)
  (.seq (.reg [⟨(some 6), .build [(.nil false 12), (.nil false 12)] [], none, 131072, 0, []⟩,
    ⟨none, .stm 2 (.t 2) (.t 6), none, 131328, 1, []⟩])
  (.ret))
  (.skip)))
 (.seq (.reg [⟨(some 7), .faddr 1 (.t 1), none, 196608, 0, []⟩,
   ⟨(some 8), .load 1 false (.t 7), none, 196864, 1, []⟩,
   ⟨(some 9), .call 132 [(.t 8)] false, none, 197120, 2, [(.t 1)]⟩,
   ⟨(some 10), .faddr 1 (.t 1), none, 197376, 3, []⟩,
   ⟨(some 11), .load 1 false (.t 10), none, 197632, 4, [(.t 1)]⟩,
   ⟨(some 12), .call 132 [(.t 11)] false, none, 197888, 5, []⟩,
   ⟨(some 13), .build [(.nil false 12), (.nil false 12)] [(0, 1, (.t 9)), (1, 1, (.t 12))], none, 198144, 6, []⟩,
   ⟨none, .stm 2 (.t 2) (.t 13), none, 198400, 7, []⟩])
 (.ret)))⟩
def F52 : F := ⟨2, 17, [.t 4],
 .seq (.reg [⟨(some 2), .box (.t 0), none, 0, 0, []⟩,
   ⟨(some 3), .box (.t 1), none, 256, 1, []⟩,
   ⟨(some 4), .mv (.k (.bool false)), none, 512, 2, []⟩])
 (.seq (.seq (.reg [⟨(some 5), .faddr 0 (.t 2), none, 65536, 0, []⟩,
   ⟨(some 6), .load 1 false (.t 5), none, 65792, 1, []⟩,
   ⟨(some 7), .faddr 0 (.t 3), none, 66048, 2, []⟩,
   ⟨(some 8), .load 1 false (.t 7), none, 66304, 3, []⟩,
   ⟨(some 9), .call 133 [(.t 6), (.t 8)] true, none, 66560, 4, []⟩,
   ⟨(some 10), .not (.t 9), none, 66816, 5, []⟩])
 (.cond (.t 10)
  (.seq (.reg [⟨(some 4), .mv (.k (.bool false)), none, 131072, 0, []⟩])
  (.ret))
  (.skip)))
 (.seq (.seq (.reg [⟨(some 11), .faddr 1 (.t 2), none, 196608, 0, []⟩,
   ⟨(some 12), .load 1 false (.t 11), none, 196864, 1, []⟩,
   ⟨(some 13), .faddr 1 (.t 3), none, 197120, 2, []⟩,
   ⟨(some 14), .load 1 false (.t 13), none, 197376, 3, []⟩,
   ⟨(some 15), .call 133 [(.t 12), (.t 14)] true, none, 197632, 4, []⟩,
   ⟨(some 16), .not (.t 15), none, 197888, 5, []⟩])
 (.cond (.t 16)
  (.seq (.reg [⟨(some 4), .mv (.k (.bool false)), none, 262144, 0, []⟩])
  (.ret))
  (.skip)))
 (.seq (.reg [⟨(some 4), .mv (.k (.bool true)), none, 327680, 0, []⟩])
 (.ret))))⟩
def F53 : F := ⟨2, 14, [.t 4],
 .seq (.reg [⟨(some 2), .box (.t 0), none, 0, 0, []⟩,
   ⟨(some 4), .mv (.k (.int .i64 0)), none, 256, 1, []⟩])
 (.seq (.reg [⟨(some 5), .faddr 0 (.t 2), none, 65536, 0, []⟩,
   ⟨(some 6), .load 1 false (.t 5), none, 65792, 1, []⟩,
   ⟨(some 7), .mv (.t 1), none, 66048, 2, []⟩,
   ⟨(some 8), .call 134 [(.t 6), (.t 7)] true, none, 66304, 3, []⟩,
   ⟨(some 1), .mv (.t 8), none, 66560, 4, []⟩])
 (.seq (.reg [⟨(some 9), .faddr 1 (.t 2), none, 131072, 0, []⟩,
   ⟨(some 10), .load 1 false (.t 9), none, 131328, 1, []⟩,
   ⟨(some 11), .mv (.t 1), none, 131584, 2, []⟩,
   ⟨(some 12), .call 134 [(.t 10), (.t 11)] true, none, 131840, 3, []⟩,
   ⟨(some 1), .mv (.t 12), none, 132096, 4, []⟩])
 (.seq (.reg [⟨(some 13), .mv (.t 1), none, 196608, 0, []⟩,
   ⟨(some 4), .mv (.t 13), none, 196864, 1, []⟩])
 (.ret))))⟩
def F54 : F := ⟨2, 18, [.t 4],
 .seq (.reg [⟨(some 2), .box (.t 0), none, 0, 0, []⟩,
   ⟨(some 4), .mv (.k (.int .i64 0)), none, 256, 1, []⟩])
 (.seq (.reg [⟨(some 5), .faddr 0 (.t 2), none, 65536, 0, []⟩,
   ⟨(some 6), .load 1 false (.t 5), none, 65792, 1, []⟩,
   ⟨(some 7), .mv (.t 1), none, 66048, 2, []⟩,
   ⟨(some 8), .call 135 [(.t 6), (.t 7)] true, none, 66304, 3, []⟩,
   ⟨(some 1), .mv (.t 8), none, 66560, 4, []⟩])
 (.seq (.seq (.reg [⟨(some 9), .mv (.t 1), none, 131072, 0, []⟩,
   ⟨(some 10), .bin .lss (.t 9) (.k (.int .i64 0)), none, 131328, 1, []⟩])
 (.cond (.t 10)
  (.seq (.reg [⟨(some 4), .mv (.k (.int .i64 (-1))), none, 196608, 0, []⟩])
  (.ret))
  (.skip)))
 (.seq (.reg [⟨(some 11), .faddr 1 (.t 2), none, 262144, 0, []⟩,
   ⟨(some 12), .load 1 false (.t 11), none, 262400, 1, []⟩,
   ⟨(some 13), .mv (.t 1), none, 262656, 2, []⟩,
   ⟨(some 14), .call 135 [(.t 12), (.t 13)] true, none, 262912, 3, []⟩,
   ⟨(some 1), .mv (.t 14), none, 263168, 4, []⟩])
 (.seq (.seq (.reg [⟨(some 15), .mv (.t 1), none, 327680, 0, []⟩,
   ⟨(some 16), .bin .lss (.t 15) (.k (.int .i64 0)), none, 327936, 1, []⟩])
 (.cond (.t 16)
  (.seq (.reg [⟨(some 4), .mv (.k (.int .i64 (-1))), none, 393216, 0, []⟩])
  (.ret))
  (.skip)))
 (.seq (.reg [⟨(some 17), .mv (.t 1), none, 458752, 0, []⟩,
   ⟨(some 4), .mv (.t 17), none, 459008, 1, []⟩])
 (.ret))))))⟩
def F55 : F := ⟨2, 27, [.t 4],
 .seq (.reg [⟨(some 4), .mv (.k (.int .i64 0)), none, 0, 0, []⟩])
 (.seq (.reg [⟨(some 6), .mv (.t 1), none, 65536, 0, []⟩,
   ⟨(some 7), .mv (.t 0), none, 65792, 1, []⟩,
   ⟨(some 8), .len false (.t 7), none, 66048, 2, []⟩,
   ⟨(some 9), .bin .sub (.t 6) (.t 8), none, 66304, 3, []⟩,
   ⟨(some 1), .mv (.t 9), none, 66560, 4, []⟩])
 (.seq (.seq (.reg [⟨(some 10), .mv (.t 1), none, 131072, 0, []⟩,
   ⟨(some 11), .bin .lss (.t 10) (.k (.int .i64 0)), none, 131328, 1, []⟩])
 (.cond (.t 11)
  (.seq (.reg [⟨(some 4), .mv (.k (.int .i64 (-1))), none, 196608, 0, []⟩])
  (.ret))
  (.skip)))
 (.seq (.seq (.reg [⟨(some 5), .mv (.k (.int .i64 0)), none, 262144, 0, []⟩])
 (.block 0 (.loop [0, 1, 5] []
  (.seq (.seq (.reg [⟨(some 12), .mv (.t 5), none, 327680, 0, []⟩,
    ⟨(some 13), .mv (.t 0), none, 327936, 1, []⟩,
    ⟨(some 14), .len false (.t 13), none, 328192, 2, []⟩,
    ⟨(some 15), .bin .lss (.t 12) (.t 14), none, 328448, 3, []⟩])
  (.cond (.t 15)
   (.skip)
   (.exit 0)))
  (.seq (.block 1 (.seq (.reg [⟨(some 18), .mv (.t 0), none, 458752, 0, []⟩,
    ⟨(some 19), .mv (.t 5), none, 459008, 1, []⟩,
    ⟨(some 20), .iaddr 5 (.t 18) (.t 19), none, 459264, 2, []⟩,
    ⟨(some 21), .load 5 true (.t 20), none, 459520, 3, []⟩,
    ⟨(some 22), .mv (.t 1), none, 459776, 4, []⟩,
    ⟨(some 23), .call 136 [(.t 21), (.t 22)] true, none, 460032, 5, []⟩,
    ⟨(some 1), .mv (.t 23), none, 460288, 6, []⟩])
  (.seq (.reg [⟨(some 24), .mv (.t 1), none, 524288, 0, []⟩,
    ⟨(some 25), .bin .lss (.t 24) (.k (.int .i64 0)), none, 524544, 1, []⟩])
  (.cond (.t 25)
   (.seq (.reg [⟨(some 4), .mv (.k (.int .i64 (-1))), none, 589824, 0, []⟩])
   (.ret))
   (.skip)))))
  (.reg [⟨(some 16), .mv (.t 5), none, 393216, 0, []⟩,
    ⟨(some 17), .bin .add (.t 16) (.k (.int .i64 1)), none, 393472, 1, []⟩,
    ⟨(some 5), .mv (.t 17), none, 393728, 2, []⟩]))))))
 (.seq (.reg [⟨(some 26), .mv (.t 1), none, 655360, 0, []⟩,
   ⟨(some 4), .mv (.t 26), none, 655616, 1, []⟩])
 (.ret)))))⟩
def F56 : F := ⟨2, 12, [.t 4],
 .seq (.reg [⟨(some 4), .mv (.k (.int .i64 0)), none, 0, 0, []⟩])
 (.seq (.reg [⟨(some 5), .mv (.t 1), none, 65536, 0, []⟩,
   ⟨(some 6), .mv (.t 0), none, 65792, 1, []⟩,
   ⟨(some 7), .len false (.t 6), none, 66048, 2, []⟩,
   ⟨(some 8), .bin .sub (.t 5) (.t 7), none, 66304, 3, []⟩,
   ⟨(some 1), .mv (.t 8), none, 66560, 4, []⟩])
 (.seq (.seq (.reg [⟨(some 9), .mv (.t 1), none, 131072, 0, []⟩,
   ⟨(some 10), .bin .lss (.t 9) (.k (.int .i64 0)), none, 131328, 1, []⟩])
 (.cond (.t 10)
  (.seq (.reg [⟨(some 4), .mv (.k (.int .i64 (-1))), none, 196608, 0, []⟩])
  (.ret))
  (.skip)))
 (.seq (.reg [⟨(some 11), .mv (.t 1), none, 262144, 0, []⟩,
   ⟨(some 4), .mv (.t 11), none, 262400, 1, []⟩])
 (.ret))))⟩
def F57 : F := ⟨2, 27, [.t 4],
 .seq (.reg [⟨(some 4), .mv (.k (.int .i64 0)), none, 0, 0, []⟩])
 (.seq (.reg [⟨(some 6), .mv (.t 1), none, 65536, 0, []⟩,
   ⟨(some 7), .mv (.t 0), none, 65792, 1, []⟩,
   ⟨(some 8), .len false (.t 7), none, 66048, 2, []⟩,
   ⟨(some 9), .bin .sub (.t 6) (.t 8), none, 66304, 3, []⟩,
   ⟨(some 1), .mv (.t 9), none, 66560, 4, []⟩])
 (.seq (.seq (.reg [⟨(some 10), .mv (.t 1), none, 131072, 0, []⟩,
   ⟨(some 11), .bin .lss (.t 10) (.k (.int .i64 0)), none, 131328, 1, []⟩])
 (.cond (.t 11)
  (.seq (.reg [⟨(some 4), .mv (.k (.int .i64 (-1))), none, 196608, 0, []⟩])
  (.ret))
  (.skip)))
 (.seq (.seq (.reg [⟨(some 5), .mv (.k (.int .i64 0)), none, 262144, 0, []⟩])
 (.block 0 (.loop [0, 1, 5] []
  (.seq (.seq (.reg [⟨(some 12), .mv (.t 5), none, 327680, 0, []⟩,
    ⟨(some 13), .mv (.t 0), none, 327936, 1, []⟩,
    ⟨(some 14), .len false (.t 13), none, 328192, 2, []⟩,
    ⟨(some 15), .bin .lss (.t 12) (.t 14), none, 328448, 3, []⟩])
  (.cond (.t 15)
   (.skip)
   (.exit 0)))
  (.seq (.block 1 (.seq (.reg [⟨(some 18), .mv (.t 0), none, 458752, 0, []⟩,
    ⟨(some 19), .mv (.t 5), none, 459008, 1, []⟩,
    ⟨(some 20), .iaddr 10 (.t 18) (.t 19), none, 459264, 2, []⟩,
    ⟨(some 21), .load 10 true (.t 20), none, 459520, 3, []⟩,
    ⟨(some 22), .mv (.t 1), none, 459776, 4, []⟩,
    ⟨(some 23), .call 137 [(.t 21), (.t 22)] true, none, 460032, 5, []⟩,
    ⟨(some 1), .mv (.t 23), none, 460288, 6, []⟩])
  (.seq (.reg [⟨(some 24), .mv (.t 1), none, 524288, 0, []⟩,
    ⟨(some 25), .bin .lss (.t 24) (.k (.int .i64 0)), none, 524544, 1, []⟩])
  (.cond (.t 25)
   (.seq (.reg [⟨(some 4), .mv (.k (.int .i64 (-1))), none, 589824, 0, []⟩])
   (.ret))
   (.skip)))))
  (.reg [⟨(some 16), .mv (.t 5), none, 393216, 0, []⟩,
    ⟨(some 17), .bin .add (.t 16) (.k (.int .i64 1)), none, 393472, 1, []⟩,
    ⟨(some 5), .mv (.t 17), none, 393728, 2, []⟩]))))))
 (.seq (.reg [⟨(some 26), .mv (.t 1), none, 655360, 0, []⟩,
   ⟨(some 4), .mv (.t 26), none, 655616, 1, []⟩])
 (.ret)))))⟩
def F58 : F := ⟨2, 27, [.t 4],
 .seq (.reg [⟨(some 4), .mv (.k (.int .i64 0)), none, 0, 0, []⟩])
 (.seq (.reg [⟨(some 6), .mv (.t 1), none, 65536, 0, []⟩,
   ⟨(some 7), .mv (.t 0), none, 65792, 1, []⟩,
   ⟨(some 8), .len false (.t 7), none, 66048, 2, []⟩,
   ⟨(some 9), .bin .sub (.t 6) (.t 8), none, 66304, 3, []⟩,
   ⟨(some 1), .mv (.t 9), none, 66560, 4, []⟩])
 (.seq (.seq (.reg [⟨(some 10), .mv (.t 1), none, 131072, 0, []⟩,
   ⟨(some 11), .bin .lss (.t 10) (.k (.int .i64 0)), none, 131328, 1, []⟩])
 (.cond (.t 11)
  (.seq (.reg [⟨(some 4), .mv (.k (.int .i64 (-1))), none, 196608, 0, []⟩])
  (.ret))
  (.skip)))
 (.seq (.seq (.reg [⟨(some 5), .mv (.k (.int .i64 0)), none, 262144, 0, []⟩])
 (.block 0 (.loop [0, 1, 5] []
  (.seq (.seq (.reg [⟨(some 12), .mv (.t 5), none, 327680, 0, []⟩,
    ⟨(some 13), .mv (.t 0), none, 327936, 1, []⟩,
    ⟨(some 14), .len false (.t 13), none, 328192, 2, []⟩,
    ⟨(some 15), .bin .lss (.t 12) (.t 14), none, 328448, 3, []⟩])
  (.cond (.t 15)
   (.skip)
   (.exit 0)))
  (.seq (.block 1 (.seq (.reg [⟨(some 18), .mv (.t 0), none, 458752, 0, []⟩,
    ⟨(some 19), .mv (.t 5), none, 459008, 1, []⟩,
    ⟨(some 20), .iaddr 6 (.t 18) (.t 19), none, 459264, 2, []⟩,
    ⟨(some 21), .load 6 true (.t 20), none, 459520, 3, []⟩,
    ⟨(some 22), .mv (.t 1), none, 459776, 4, []⟩,
    ⟨(some 23), .call 22 [(.t 21), (.t 22)] true, none, 460032, 5, []⟩,
    ⟨(some 1), .mv (.t 23), none, 460288, 6, []⟩])
  (.seq (.reg [⟨(some 24), .mv (.t 1), none, 524288, 0, []⟩,
    ⟨(some 25), .bin .lss (.t 24) (.k (.int .i64 0)), none, 524544, 1, []⟩])
  (.cond (.t 25)
   (.seq (.reg [⟨(some 4), .mv (.k (.int .i64 (-1))), none, 589824, 0, []⟩])
   (.ret))
   (.skip)))))
  (.reg [⟨(some 16), .mv (.t 5), none, 393216, 0, []⟩,
    ⟨(some 17), .bin .add (.t 16) (.k (.int .i64 1)), none, 393472, 1, []⟩,
    ⟨(some 5), .mv (.t 17), none, 393728, 2, []⟩]))))))
 (.seq (.reg [⟨(some 26), .mv (.t 1), none, 655360, 0, []⟩,
   ⟨(some 4), .mv (.t 26), none, 655616, 1, []⟩])
 (.ret)))))⟩
def F59 : F := ⟨1, 26, [.cell 2 12 true],
 .seq (.reg [⟨(some 1), .box (.t 0), none, 0, 0, []⟩,
   ⟨(some 2), .alloc [(.int .i64 0), (.int .i64 0), (.int .i64 0), (.int .i64 0), (.int .i64 0), (.int .i64 0), (.nil true 5), (.nil true 4), (.nil true 10), (.int .i64 0), (.int .i64 0), (.nil true 6)], none, 256, 1, []⟩])
 (.seq (.reg [⟨(some 4), .load 12 true (.t 1), none, 65536, 0, []⟩,
   ⟨(some 3), .alloc [(.int .i64 0), (.int .i64 0), (.int .i64 0), (.int .i64 0), (.int .i64 0), (.int .i64 0), (.nil true 5), (.nil true 4), (.nil true 10), (.int .i64 0), (.int .i64 0), (.nil true 6)], none, 65792, 1, []⟩,
   ⟨none, .store 12 (.t 3) (.t 4), none, 66048, 2, []⟩])
 (.seq (.reg [⟨(some 5), .bslice true 5 [(.str ByteArray.empty), (.int .i64 0), (.int .i64 0), (.int .i64 0), (.int .i64 0)] 0 [], none, 131072, 0, []⟩,
   ⟨(some 6), .faddr 6 (.t 1), none, 131328, 1, []⟩,
   ⟨(some 7), .load 1 false (.t 6), none, 131584, 2, []⟩,
   ⟨(some 8), .app true 5 48 (.t 5) (.t 7), none, 131840, 3, []⟩,
   ⟨(some 9), .faddr 6 (.t 3), none, 132096, 4, []⟩,
   ⟨none, .store 1 (.t 9) (.t 8), none, 132352, 5, []⟩])
 (.seq (.reg [⟨(some 10), .bslice true 4 [(.int .i64 0), (.int .i64 0), (.int .i64 0), (.int .i64 0)] 0 [], none, 196608, 0, []⟩,
   ⟨(some 11), .faddr 7 (.t 1), none, 196864, 1, []⟩,
   ⟨(some 12), .load 1 false (.t 11), none, 197120, 2, []⟩,
   ⟨(some 13), .app true 4 32 (.t 10) (.t 12), none, 197376, 3, []⟩,
   ⟨(some 14), .faddr 7 (.t 3), none, 197632, 4, []⟩,
   ⟨none, .store 1 (.t 14) (.t 13), none, 197888, 5, []⟩])
 (.seq (.reg [⟨(some 15), .bslice true 10 [(.int .i64 0), (.int .i64 0), (.int .i64 0), (.int .i64 0), (.str ByteArray.empty), (.bool false), (.int .i64 0), (.int .i64 0), (.int .i64 0), (.int .i64 0)] 0 [], none, 262144, 0, []⟩,
   ⟨(some 16), .faddr 8 (.t 1), none, 262400, 1, []⟩,
   ⟨(some 17), .load 1 false (.t 16), none, 262656, 2, []⟩,
   ⟨(some 18), .app true 10 88 (.t 15) (.t 17), none, 262912, 3, []⟩,
   ⟨(some 19), .faddr 8 (.t 3), none, 263168, 4, []⟩,
   ⟨none, .store 1 (.t 19) (.t 18), none, 263424, 5, []⟩])
 (.seq (.reg [⟨(some 20), .bslice true 6 [(.str ByteArray.empty), (.int .i64 0), (.int .i64 0), (.int .i64 0), (.int .i64 0), (.str ByteArray.empty)] 0 [], none, 327680, 0, []⟩,
   ⟨(some 21), .faddr 11 (.t 1), none, 327936, 1, []⟩,
   ⟨(some 22), .load 1 false (.t 21), none, 328192, 2, []⟩,
   ⟨(some 23), .app true 6 64 (.t 20) (.t 22), none, 328448, 3, []⟩,
   ⟨(some 24), .faddr 11 (.t 3), none, 328704, 4, []⟩,
   ⟨none, .store 1 (.t 24) (.t 23), none, 328960, 5, []⟩])
 (.seq (.reg [⟨(some 25), .load 12 true (.t 3), none, 393216, 0, []⟩,
   ⟨none, .store 12 (.t 2) (.t 25), none, 393472, 1, []⟩])
 (.ret)))))))⟩
def F61 : F := ⟨1, 11, [.cell 2 2 true],
 .seq (.reg [⟨(some 1), .box (.t 0), none, 0, 0, []⟩,
   ⟨(some 2), .alloc [(.int .i64 0), (.int .i64 0)], none, 256, 1, []⟩])
 (.seq (.reg [⟨(some 3), .alloc [(.int .i64 0), (.int .i64 0)], none, 65536, 0, []⟩])
 (.seq (.reg [⟨(some 4), .faddr 0 (.t 1), none, 131072, 0, []⟩,
   ⟨(some 5), .load 1 false (.t 4), none, 131328, 1, []⟩,
   ⟨(some 6), .faddr 0 (.t 3), none, 131584, 2, []⟩,
   ⟨none, .store 1 (.t 6) (.t 5), none, 131840, 3, []⟩])
 (.seq (.reg [⟨(some 7), .faddr 1 (.t 1), none, 196608, 0, []⟩,
   ⟨(some 8), .load 1 false (.t 7), none, 196864, 1, []⟩,
   ⟨(some 9), .faddr 1 (.t 3), none, 197120, 2, []⟩,
   ⟨none, .store 1 (.t 9) (.t 8), none, 197376, 3, []⟩])
 (.seq (.reg [⟨(some 10), .load 2 true (.t 3), none, 262144, 0, []⟩,
   ⟨none, .store 2 (.t 2) (.t 10), none, 262400, 1, []⟩])
 (.ret)))))⟩
def F62 : F := ⟨1, 23, [.t 2],
 .seq (.reg [⟨(some 2), .nil0 true 5, none, 0, 0, []⟩])
 (.seq (.reg [⟨(some 5), .mv (.t 0), none, 65536, 0, []⟩,
   ⟨(some 6), .len false (.t 5), none, 65792, 1, []⟩,
   ⟨(some 7), .mksl true 5 48 [(.str ByteArray.empty), (.int .i64 0), (.int .i64 0), (.int .i64 0), (.int .i64 0)] (.t 6) (.t 6), none, 66048, 2, []⟩,
   ⟨(some 3), .mv (.t 7), none, 66304, 3, []⟩])
 (.seq (.seq (.reg [⟨(some 4), .mv (.k (.int .i64 0)), none, 131072, 0, []⟩])
 (.block 0 (.loop [0, 3, 4] [0, 66048]
  (.seq (.seq (.reg [⟨(some 8), .mv (.t 4), none, 196608, 0, []⟩,
    ⟨(some 9), .mv (.t 0), none, 196864, 1, []⟩,
    ⟨(some 10), .len false (.t 9), none, 197120, 2, []⟩,
    ⟨(some 11), .bin .lss (.t 8) (.t 10), none, 197376, 3, []⟩])
  (.cond (.t 11)
   (.skip)
   (.exit 0)))
  (.seq (.block 1 (.reg [⟨(some 14), .mv (.t 3), none, 327680, 0, []⟩,
    ⟨(some 15), .mv (.t 4), none, 327936, 1, []⟩,
    ⟨(some 16), .mv (.t 0), none, 328192, 2, []⟩,
    ⟨(some 17), .mv (.t 4), none, 328448, 3, []⟩,
    ⟨(some 18), .iaddr 5 (.t 16) (.t 17), none, 328704, 4, []⟩,
    ⟨(some 19), .load 5 true (.t 18), none, 328960, 5, []⟩,
    ⟨(some 20), .call 138 [(.t 19)] true, none, 329216, 6, []⟩,
    ⟨(some 21), .iaddr 5 (.t 14) (.t 15), none, 329472, 7, []⟩,
    ⟨none, .store 5 (.t 21) (.t 20), none, 329728, 8, []⟩]))
  (.reg [⟨(some 12), .mv (.t 4), none, 262144, 0, []⟩,
    ⟨(some 13), .bin .add (.t 12) (.k (.int .i64 1)), none, 262400, 1, []⟩,
    ⟨(some 4), .mv (.t 13), none, 262656, 2, []⟩]))))))
 (.seq (.reg [⟨(some 22), .mv (.t 3), none, 393216, 0, []⟩,
   ⟨(some 2), .mv (.t 22), none, 393472, 1, []⟩])
 (.ret))))⟩
def F63 : F := ⟨1, 23, [.t 2],
 .seq (.reg [⟨(some 2), .nil0 true 4, none, 0, 0, []⟩])
 (.seq (.reg [⟨(some 5), .mv (.t 0), none, 65536, 0, []⟩,
   ⟨(some 6), .len false (.t 5), none, 65792, 1, []⟩,
   ⟨(some 7), .mksl true 4 32 [(.int .i64 0), (.int .i64 0), (.int .i64 0), (.int .i64 0)] (.t 6) (.t 6), none, 66048, 2, []⟩,
   ⟨(some 3), .mv (.t 7), none, 66304, 3, []⟩])
 (.seq (.seq (.reg [⟨(some 4), .mv (.k (.int .i64 0)), none, 131072, 0, []⟩])
 (.block 0 (.loop [0, 3, 4] [0, 66048]
  (.seq (.seq (.reg [⟨(some 8), .mv (.t 4), none, 196608, 0, []⟩,
    ⟨(some 9), .mv (.t 0), none, 196864, 1, []⟩,
    ⟨(some 10), .len false (.t 9), none, 197120, 2, []⟩,
    ⟨(some 11), .bin .lss (.t 8) (.t 10), none, 197376, 3, []⟩])
  (.cond (.t 11)
   (.skip)
   (.exit 0)))
  (.seq (.block 1 (.reg [⟨(some 14), .mv (.t 3), none, 327680, 0, []⟩,
    ⟨(some 15), .mv (.t 4), none, 327936, 1, []⟩,
    ⟨(some 16), .mv (.t 0), none, 328192, 2, []⟩,
    ⟨(some 17), .mv (.t 4), none, 328448, 3, []⟩,
    ⟨(some 18), .iaddr 4 (.t 16) (.t 17), none, 328704, 4, []⟩,
    ⟨(some 19), .load 4 true (.t 18), none, 328960, 5, []⟩,
    ⟨(some 20), .call 139 [(.t 19)] true, none, 329216, 6, []⟩,
    ⟨(some 21), .iaddr 4 (.t 14) (.t 15), none, 329472, 7, []⟩,
    ⟨none, .store 4 (.t 21) (.t 20), none, 329728, 8, []⟩]))
  (.reg [⟨(some 12), .mv (.t 4), none, 262144, 0, []⟩,
    ⟨(some 13), .bin .add (.t 12) (.k (.int .i64 1)), none, 262400, 1, []⟩,
    ⟨(some 4), .mv (.t 13), none, 262656, 2, []⟩]))))))
 (.seq (.reg [⟨(some 22), .mv (.t 3), none, 393216, 0, []⟩,
   ⟨(some 2), .mv (.t 22), none, 393472, 1, []⟩])
 (.ret))))⟩
def F64 : F := ⟨1, 23, [.t 2],
 .seq (.reg [⟨(some 2), .nil0 true 10, none, 0, 0, []⟩])
 (.seq (.reg [⟨(some 5), .mv (.t 0), none, 65536, 0, []⟩,
   ⟨(some 6), .len false (.t 5), none, 65792, 1, []⟩,
   ⟨(some 7), .mksl true 10 88 [(.int .i64 0), (.int .i64 0), (.int .i64 0), (.int .i64 0), (.str ByteArray.empty), (.bool false), (.int .i64 0), (.int .i64 0), (.int .i64 0), (.int .i64 0)] (.t 6) (.t 6), none, 66048, 2, []⟩,
   ⟨(some 3), .mv (.t 7), none, 66304, 3, []⟩])
 (.seq (.seq (.reg [⟨(some 4), .mv (.k (.int .i64 0)), none, 131072, 0, []⟩])
 (.block 0 (.loop [0, 3, 4] [0, 66048]
  (.seq (.seq (.reg [⟨(some 8), .mv (.t 4), none, 196608, 0, []⟩,
    ⟨(some 9), .mv (.t 0), none, 196864, 1, []⟩,
    ⟨(some 10), .len false (.t 9), none, 197120, 2, []⟩,
    ⟨(some 11), .bin .lss (.t 8) (.t 10), none, 197376, 3, []⟩])
  (.cond (.t 11)
   (.skip)
   (.exit 0)))
  (.seq (.block 1 (.reg [⟨(some 14), .mv (.t 3), none, 327680, 0, []⟩,
    ⟨(some 15), .mv (.t 4), none, 327936, 1, []⟩,
    ⟨(some 16), .mv (.t 0), none, 328192, 2, []⟩,
    ⟨(some 17), .mv (.t 4), none, 328448, 3, []⟩,
    ⟨(some 18), .iaddr 10 (.t 16) (.t 17), none, 328704, 4, []⟩,
    ⟨(some 19), .load 10 true (.t 18), none, 328960, 5, []⟩,
    ⟨(some 20), .call 140 [(.t 19)] true, none, 329216, 6, []⟩,
    ⟨(some 21), .iaddr 10 (.t 14) (.t 15), none, 329472, 7, []⟩,
    ⟨none, .store 10 (.t 21) (.t 20), none, 329728, 8, []⟩]))
  (.reg [⟨(some 12), .mv (.t 4), none, 262144, 0, []⟩,
    ⟨(some 13), .bin .add (.t 12) (.k (.int .i64 1)), none, 262400, 1, []⟩,
    ⟨(some 4), .mv (.t 13), none, 262656, 2, []⟩]))))))
 (.seq (.reg [⟨(some 22), .mv (.t 3), none, 393216, 0, []⟩,
   ⟨(some 2), .mv (.t 22), none, 393472, 1, []⟩])
 (.ret))))⟩
def F65 : F := ⟨1, 23, [.t 2],
 .seq (.reg [⟨(some 2), .nil0 true 6, none, 0, 0, []⟩])
 (.seq (.reg [⟨(some 5), .mv (.t 0), none, 65536, 0, []⟩,
   ⟨(some 6), .len false (.t 5), none, 65792, 1, []⟩,
   ⟨(some 7), .mksl true 6 64 [(.str ByteArray.empty), (.int .i64 0), (.int .i64 0), (.int .i64 0), (.int .i64 0), (.str ByteArray.empty)] (.t 6) (.t 6), none, 66048, 2, []⟩,
   ⟨(some 3), .mv (.t 7), none, 66304, 3, []⟩])
 (.seq (.seq (.reg [⟨(some 4), .mv (.k (.int .i64 0)), none, 131072, 0, []⟩])
 (.block 0 (.loop [0, 3, 4] [0, 66048]
  (.seq (.seq (.reg [⟨(some 8), .mv (.t 4), none, 196608, 0, []⟩,
    ⟨(some 9), .mv (.t 0), none, 196864, 1, []⟩,
    ⟨(some 10), .len false (.t 9), none, 197120, 2, []⟩,
    ⟨(some 11), .bin .lss (.t 8) (.t 10), none, 197376, 3, []⟩])
  (.cond (.t 11)
   (.skip)
   (.exit 0)))
  (.seq (.block 1 (.reg [⟨(some 14), .mv (.t 3), none, 327680, 0, []⟩,
    ⟨(some 15), .mv (.t 4), none, 327936, 1, []⟩,
    ⟨(some 16), .mv (.t 0), none, 328192, 2, []⟩,
    ⟨(some 17), .mv (.t 4), none, 328448, 3, []⟩,
    ⟨(some 18), .iaddr 6 (.t 16) (.t 17), none, 328704, 4, []⟩,
    ⟨(some 19), .load 6 true (.t 18), none, 328960, 5, []⟩,
    ⟨(some 20), .call 24 [(.t 19)] true, none, 329216, 6, []⟩,
    ⟨(some 21), .iaddr 6 (.t 14) (.t 15), none, 329472, 7, []⟩,
    ⟨none, .store 6 (.t 21) (.t 20), none, 329728, 8, []⟩]))
  (.reg [⟨(some 12), .mv (.t 4), none, 262144, 0, []⟩,
    ⟨(some 13), .bin .add (.t 12) (.k (.int .i64 1)), none, 262400, 1, []⟩,
    ⟨(some 4), .mv (.t 13), none, 262656, 2, []⟩]))))))
 (.seq (.reg [⟨(some 22), .mv (.t 3), none, 393216, 0, []⟩,
   ⟨(some 2), .mv (.t 22), none, 393472, 1, []⟩])
 (.ret))))⟩
def F66 : F := ⟨1, 48, [.t 2],
 .seq (.reg [⟨(some 1), .box (.t 0), none, 0, 0, []⟩,
   ⟨(some 2), .mv (.k (.bool false)), none, 256, 1, []⟩])
 (.seq (.reg [⟨(some 3), .faddr 0 (.t 1), none, 65536, 0, []⟩,
   ⟨(some 4), .load 2 true (.t 3), none, 65792, 1, []⟩,
   ⟨(some 5), .call 141 [(.t 4)] true, none, 66048, 2, []⟩,
   ⟨(some 6), .mv (.t 5), none, 66304, 3, []⟩,
   ⟨(some 7), .faddr 2 (.t 1), (some (some 6, true)), 66560, 4, []⟩,
   ⟨(some 8), .load 1 false (.t 7), (some (some 6, true)), 66816, 5, []⟩,
   ⟨(some 9), .call 142 [(.t 8), (.k (.int .i64 0)), (.k (.int .i64 60))] true, (some (some 6, true)), 67072, 6, []⟩,
   ⟨(some 10), .pick (.t 6) (.t 9) (.k (.bool false)), none, 67328, 7, []⟩,
   ⟨(some 11), .mv (.t 10), none, 67584, 8, []⟩,
   ⟨(some 12), .faddr 3 (.t 1), (some (some 11, true)), 67840, 9, []⟩,
   ⟨(some 13), .load 1 false (.t 12), (some (some 11, true)), 68096, 10, []⟩,
   ⟨(some 14), .faddr 2 (.t 1), (some (some 11, true)), 68352, 11, []⟩,
   ⟨(some 15), .load 1 false (.t 14), (some (some 11, true)), 68608, 12, []⟩,
   ⟨(some 16), .call 142 [(.t 13), (.k (.int .i64 0)), (.t 15)] true, (some (some 11, true)), 68864, 13, []⟩,
   ⟨(some 17), .pick (.t 11) (.t 16) (.k (.bool false)), none, 69120, 14, []⟩,
   ⟨(some 18), .mv (.t 17), none, 69376, 15, []⟩,
   ⟨(some 19), .faddr 4 (.t 1), (some (some 18, true)), 69632, 16, []⟩,
   ⟨(some 20), .load 2 true (.t 19), (some (some 18, true)), 69888, 17, []⟩,
   ⟨(some 21), .call 143 [(.t 20)] true, (some (some 18, true)), 70144, 18, []⟩,
   ⟨(some 22), .pick (.t 18) (.t 21) (.k (.bool false)), none, 70400, 19, []⟩,
   ⟨(some 23), .mv (.t 22), none, 70656, 20, []⟩,
   ⟨(some 24), .load 12 true (.t 1), (some (some 23, true)), 70912, 21, []⟩,
   ⟨(some 25), .call 144 [(.t 24)] true, (some (some 23, true)), 71168, 22, []⟩,
   ⟨(some 26), .pick (.t 23) (.t 25) (.k (.bool false)), none, 71424, 23, []⟩,
   ⟨(some 27), .mv (.t 26), none, 71680, 24, []⟩,
   ⟨(some 28), .load 12 true (.t 1), (some (some 27, true)), 71936, 25, []⟩,
   ⟨(some 29), .call 145 [(.t 28)] true, (some (some 27, true)), 72192, 26, []⟩,
   ⟨(some 30), .pick (.t 27) (.t 29) (.k (.bool false)), none, 72448, 27, []⟩,
   ⟨(some 31), .mv (.t 30), none, 72704, 28, []⟩,
   ⟨(some 32), .faddr 9 (.t 1), (some (some 31, true)), 72960, 29, []⟩,
   ⟨(some 33), .load 2 true (.t 32), (some (some 31, true)), 73216, 30, []⟩,
   ⟨(some 34), .call 143 [(.t 33)] true, (some (some 31, true)), 73472, 31, []⟩,
   ⟨(some 35), .pick (.t 31) (.t 34) (.k (.bool false)), none, 73728, 32, []⟩,
   ⟨(some 36), .mv (.t 35), none, 73984, 33, []⟩,
   ⟨(some 37), .load 12 true (.t 1), (some (some 36, true)), 74240, 34, []⟩,
   ⟨(some 38), .call 110 [(.t 37)] true, (some (some 36, true)), 74496, 35, []⟩,
   ⟨(some 39), .faddr 9 (.t 1), (some (some 36, true)), 74752, 36, []⟩,
   ⟨(some 40), .load 2 true (.t 39), (some (some 36, true)), 75008, 37, []⟩,
   ⟨(some 41), .call 38 [(.t 38), (.t 40)] true, (some (some 36, true)), 75264, 38, []⟩,
   ⟨(some 42), .not (.t 41), (some (some 36, true)), 75520, 39, []⟩,
   ⟨(some 43), .pick (.t 36) (.t 42) (.k (.bool false)), none, 75776, 40, []⟩,
   ⟨(some 44), .mv (.t 43), none, 76032, 41, []⟩,
   ⟨(some 45), .load 12 true (.t 1), (some (some 44, true)), 76288, 42, []⟩,
   ⟨(some 46), .call 146 [(.t 45)] true, (some (some 44, true)), 76544, 43, []⟩,
   ⟨(some 47), .pick (.t 44) (.t 46) (.k (.bool false)), none, 76800, 44, []⟩,
   ⟨(some 2), .mv (.t 47), none, 77056, 45, []⟩])
 (.ret))⟩
def F68 : F := ⟨2, 15, [.t 4],
 .seq (.reg [⟨(some 2), .box (.t 0), none, 0, 0, []⟩,
   ⟨(some 3), .box (.t 1), none, 256, 1, []⟩,
   ⟨(some 4), .mv (.k (.bool false)), none, 512, 2, []⟩])
 (.seq (.seq (.reg [⟨(some 5), .faddr 0 (.t 2), none, 65536, 0, []⟩,
   ⟨(some 6), .load 1 false (.t 5), none, 65792, 1, []⟩,
   ⟨(some 7), .faddr 0 (.t 3), none, 66048, 2, []⟩,
   ⟨(some 8), .load 1 false (.t 7), none, 66304, 3, []⟩,
   ⟨(some 9), .bin .neq (.t 6) (.t 8), none, 66560, 4, []⟩])
 (.cond (.t 9)
  (.seq (.reg [⟨(some 4), .mv (.k (.bool false)), none, 131072, 0, []⟩])
  (.ret))
  (.skip)))
 (.seq (.seq (.reg [⟨(some 10), .faddr 1 (.t 2), none, 196608, 0, []⟩,
   ⟨(some 11), .load 1 false (.t 10), none, 196864, 1, []⟩,
   ⟨(some 12), .faddr 1 (.t 3), none, 197120, 2, []⟩,
   ⟨(some 13), .load 1 false (.t 12), none, 197376, 3, []⟩,
   ⟨(some 14), .bin .neq (.t 11) (.t 13), none, 197632, 4, []⟩])
 (.cond (.t 14)
  (.seq (.reg [⟨(some 4), .mv (.k (.bool false)), none, 262144, 0, []⟩])
  (.ret))
  (.skip)))
 (.seq (.reg [⟨(some 4), .mv (.k (.bool true)), none, 327680, 0, []⟩])
 (.ret))))⟩
def F69 : F := ⟨2, 15, [.t 4],
 .seq (.reg [⟨(some 2), .box (.t 0), none, 0, 0, []⟩,
   ⟨(some 3), .box (.t 1), none, 256, 1, []⟩,
   ⟨(some 4), .mv (.k (.bool false)), none, 512, 2, []⟩])
 (.seq (.seq (.reg [⟨(some 5), .faddr 0 (.t 2), none, 65536, 0, []⟩,
   ⟨(some 6), .load 1 false (.t 5), none, 65792, 1, []⟩,
   ⟨(some 7), .faddr 0 (.t 3), none, 66048, 2, []⟩,
   ⟨(some 8), .load 1 false (.t 7), none, 66304, 3, []⟩,
   ⟨(some 9), .bin .neq (.t 6) (.t 8), none, 66560, 4, []⟩])
 (.cond (.t 9)
  (.seq (.reg [⟨(some 4), .mv (.k (.bool false)), none, 131072, 0, []⟩])
  (.ret))
  (.skip)))
 (.seq (.seq (.reg [⟨(some 10), .faddr 1 (.t 2), none, 196608, 0, []⟩,
   ⟨(some 11), .load 1 false (.t 10), none, 196864, 1, []⟩,
   ⟨(some 12), .faddr 1 (.t 3), none, 197120, 2, []⟩,
   ⟨(some 13), .load 1 false (.t 12), none, 197376, 3, []⟩,
   ⟨(some 14), .bin .neq (.t 11) (.t 13), none, 197632, 4, []⟩])
 (.cond (.t 14)
  (.seq (.reg [⟨(some 4), .mv (.k (.bool false)), none, 262144, 0, []⟩])
  (.ret))
  (.skip)))
 (.seq (.reg [⟨(some 4), .mv (.k (.bool true)), none, 327680, 0, []⟩])
 (.ret))))⟩
def F70 : F := ⟨2, 27, [.t 4],
 .seq (.reg [⟨(some 4), .mv (.k (.bool false)), none, 0, 0, []⟩])
 (.seq (.seq (.reg [⟨(some 6), .mv (.t 0), none, 65536, 0, []⟩,
   ⟨(some 7), .len false (.t 6), none, 65792, 1, []⟩,
   ⟨(some 8), .mv (.t 1), none, 66048, 2, []⟩,
   ⟨(some 9), .len false (.t 8), none, 66304, 3, []⟩,
   ⟨(some 10), .bin .neq (.t 7) (.t 9), none, 66560, 4, []⟩])
 (.cond (.t 10)
  (.seq (.reg [⟨(some 4), .mv (.k (.bool false)), none, 131072, 0, []⟩])
  (.ret))
  (.skip)))
 (.seq (.seq (.reg [⟨(some 5), .mv (.k (.int .i64 0)), none, 196608, 0, []⟩])
 (.block 0 (.loop [0, 1, 5] []
  (.seq (.seq (.reg [⟨(some 11), .mv (.t 5), none, 262144, 0, []⟩,
    ⟨(some 12), .mv (.t 0), none, 262400, 1, []⟩,
    ⟨(some 13), .len false (.t 12), none, 262656, 2, []⟩,
    ⟨(some 14), .bin .lss (.t 11) (.t 13), none, 262912, 3, []⟩])
  (.cond (.t 14)
   (.skip)
   (.exit 0)))
  (.seq (.block 1 (.seq (.reg [⟨(some 17), .mv (.t 0), none, 393216, 0, []⟩,
    ⟨(some 18), .mv (.t 5), none, 393472, 1, []⟩,
    ⟨(some 19), .iaddr 5 (.t 17) (.t 18), none, 393728, 2, []⟩,
    ⟨(some 20), .load 5 true (.t 19), none, 393984, 3, []⟩,
    ⟨(some 21), .mv (.t 1), none, 394240, 4, []⟩,
    ⟨(some 22), .mv (.t 5), none, 394496, 5, []⟩,
    ⟨(some 23), .iaddr 5 (.t 21) (.t 22), none, 394752, 6, []⟩,
    ⟨(some 24), .load 5 true (.t 23), none, 395008, 7, []⟩,
    ⟨(some 25), .call 151 [(.t 20), (.t 24)] true, none, 395264, 8, []⟩,
    ⟨(some 26), .not (.t 25), none, 395520, 9, []⟩])
  (.cond (.t 26)
   (.seq (.reg [⟨(some 4), .mv (.k (.bool false)), none, 458752, 0, []⟩])
   (.ret))
   (.skip))))
  (.reg [⟨(some 15), .mv (.t 5), none, 327680, 0, []⟩,
    ⟨(some 16), .bin .add (.t 15) (.k (.int .i64 1)), none, 327936, 1, []⟩,
    ⟨(some 5), .mv (.t 16), none, 328192, 2, []⟩]))))))
 (.seq (.reg [⟨(some 4), .mv (.k (.bool true)), none, 524288, 0, []⟩])
 (.ret))))⟩
def F71 : F := ⟨2, 27, [.t 4],
 .seq (.reg [⟨(some 4), .mv (.k (.bool false)), none, 0, 0, []⟩])
 (.seq (.seq (.reg [⟨(some 6), .mv (.t 0), none, 65536, 0, []⟩,
   ⟨(some 7), .len false (.t 6), none, 65792, 1, []⟩,
   ⟨(some 8), .mv (.t 1), none, 66048, 2, []⟩,
   ⟨(some 9), .len false (.t 8), none, 66304, 3, []⟩,
   ⟨(some 10), .bin .neq (.t 7) (.t 9), none, 66560, 4, []⟩])
 (.cond (.t 10)
  (.seq (.reg [⟨(some 4), .mv (.k (.bool false)), none, 131072, 0, []⟩])
  (.ret))
  (.skip)))
 (.seq (.seq (.reg [⟨(some 5), .mv (.k (.int .i64 0)), none, 196608, 0, []⟩])
 (.block 0 (.loop [0, 1, 5] []
  (.seq (.seq (.reg [⟨(some 11), .mv (.t 5), none, 262144, 0, []⟩,
    ⟨(some 12), .mv (.t 0), none, 262400, 1, []⟩,
    ⟨(some 13), .len false (.t 12), none, 262656, 2, []⟩,
    ⟨(some 14), .bin .lss (.t 11) (.t 13), none, 262912, 3, []⟩])
  (.cond (.t 14)
   (.skip)
   (.exit 0)))
  (.seq (.block 1 (.seq (.reg [⟨(some 17), .mv (.t 0), none, 393216, 0, []⟩,
    ⟨(some 18), .mv (.t 5), none, 393472, 1, []⟩,
    ⟨(some 19), .iaddr 4 (.t 17) (.t 18), none, 393728, 2, []⟩,
    ⟨(some 20), .load 4 true (.t 19), none, 393984, 3, []⟩,
    ⟨(some 21), .mv (.t 1), none, 394240, 4, []⟩,
    ⟨(some 22), .mv (.t 5), none, 394496, 5, []⟩,
    ⟨(some 23), .iaddr 4 (.t 21) (.t 22), none, 394752, 6, []⟩,
    ⟨(some 24), .load 4 true (.t 23), none, 395008, 7, []⟩,
    ⟨(some 25), .call 152 [(.t 20), (.t 24)] true, none, 395264, 8, []⟩,
    ⟨(some 26), .not (.t 25), none, 395520, 9, []⟩])
  (.cond (.t 26)
   (.seq (.reg [⟨(some 4), .mv (.k (.bool false)), none, 458752, 0, []⟩])
   (.ret))
   (.skip))))
  (.reg [⟨(some 15), .mv (.t 5), none, 327680, 0, []⟩,
    ⟨(some 16), .bin .add (.t 15) (.k (.int .i64 1)), none, 327936, 1, []⟩,
    ⟨(some 5), .mv (.t 16), none, 328192, 2, []⟩]))))))
 (.seq (.reg [⟨(some 4), .mv (.k (.bool true)), none, 524288, 0, []⟩])
 (.ret))))⟩
def F72 : F := ⟨2, 27, [.t 4],
 .seq (.reg [⟨(some 4), .mv (.k (.bool false)), none, 0, 0, []⟩])
 (.seq (.seq (.reg [⟨(some 6), .mv (.t 0), none, 65536, 0, []⟩,
   ⟨(some 7), .len false (.t 6), none, 65792, 1, []⟩,
   ⟨(some 8), .mv (.t 1), none, 66048, 2, []⟩,
   ⟨(some 9), .len false (.t 8), none, 66304, 3, []⟩,
   ⟨(some 10), .bin .neq (.t 7) (.t 9), none, 66560, 4, []⟩])
 (.cond (.t 10)
  (.seq (.reg [⟨(some 4), .mv (.k (.bool false)), none, 131072, 0, []⟩])
  (.ret))
  (.skip)))
 (.seq (.seq (.reg [⟨(some 5), .mv (.k (.int .i64 0)), none, 196608, 0, []⟩])
 (.block 0 (.loop [0, 1, 5] []
  (.seq (.seq (.reg [⟨(some 11), .mv (.t 5), none, 262144, 0, []⟩,
    ⟨(some 12), .mv (.t 0), none, 262400, 1, []⟩,
    ⟨(some 13), .len false (.t 12), none, 262656, 2, []⟩,
    ⟨(some 14), .bin .lss (.t 11) (.t 13), none, 262912, 3, []⟩])
  (.cond (.t 14)
   (.skip)
   (.exit 0)))
  (.seq (.block 1 (.seq (.reg [⟨(some 17), .mv (.t 0), none, 393216, 0, []⟩,
    ⟨(some 18), .mv (.t 5), none, 393472, 1, []⟩,
    ⟨(some 19), .iaddr 10 (.t 17) (.t 18), none, 393728, 2, []⟩,
    ⟨(some 20), .load 10 true (.t 19), none, 393984, 3, []⟩,
    ⟨(some 21), .mv (.t 1), none, 394240, 4, []⟩,
    ⟨(some 22), .mv (.t 5), none, 394496, 5, []⟩,
    ⟨(some 23), .iaddr 10 (.t 21) (.t 22), none, 394752, 6, []⟩,
    ⟨(some 24), .load 10 true (.t 23), none, 395008, 7, []⟩,
    ⟨(some 25), .call 153 [(.t 20), (.t 24)] true, none, 395264, 8, []⟩,
    ⟨(some 26), .not (.t 25), none, 395520, 9, []⟩])
  (.cond (.t 26)
   (.seq (.reg [⟨(some 4), .mv (.k (.bool false)), none, 458752, 0, []⟩])
   (.ret))
   (.skip))))
  (.reg [⟨(some 15), .mv (.t 5), none, 327680, 0, []⟩,
    ⟨(some 16), .bin .add (.t 15) (.k (.int .i64 1)), none, 327936, 1, []⟩,
    ⟨(some 5), .mv (.t 16), none, 328192, 2, []⟩]))))))
 (.seq (.reg [⟨(some 4), .mv (.k (.bool true)), none, 524288, 0, []⟩])
 (.ret))))⟩
def F73 : F := ⟨2, 27, [.t 4],
 .seq (.reg [⟨(some 4), .mv (.k (.bool false)), none, 0, 0, []⟩])
 (.seq (.seq (.reg [⟨(some 6), .mv (.t 0), none, 65536, 0, []⟩,
   ⟨(some 7), .len false (.t 6), none, 65792, 1, []⟩,
   ⟨(some 8), .mv (.t 1), none, 66048, 2, []⟩,
   ⟨(some 9), .len false (.t 8), none, 66304, 3, []⟩,
   ⟨(some 10), .bin .neq (.t 7) (.t 9), none, 66560, 4, []⟩])
 (.cond (.t 10)
  (.seq (.reg [⟨(some 4), .mv (.k (.bool false)), none, 131072, 0, []⟩])
  (.ret))
  (.skip)))
 (.seq (.seq (.reg [⟨(some 5), .mv (.k (.int .i64 0)), none, 196608, 0, []⟩])
 (.block 0 (.loop [0, 1, 5] []
  (.seq (.seq (.reg [⟨(some 11), .mv (.t 5), none, 262144, 0, []⟩,
    ⟨(some 12), .mv (.t 0), none, 262400, 1, []⟩,
    ⟨(some 13), .len false (.t 12), none, 262656, 2, []⟩,
    ⟨(some 14), .bin .lss (.t 11) (.t 13), none, 262912, 3, []⟩])
  (.cond (.t 14)
   (.skip)
   (.exit 0)))
  (.seq (.block 1 (.seq (.reg [⟨(some 17), .mv (.t 0), none, 393216, 0, []⟩,
    ⟨(some 18), .mv (.t 5), none, 393472, 1, []⟩,
    ⟨(some 19), .iaddr 6 (.t 17) (.t 18), none, 393728, 2, []⟩,
    ⟨(some 20), .load 6 true (.t 19), none, 393984, 3, []⟩,
    ⟨(some 21), .mv (.t 1), none, 394240, 4, []⟩,
    ⟨(some 22), .mv (.t 5), none, 394496, 5, []⟩,
    ⟨(some 23), .iaddr 6 (.t 21) (.t 22), none, 394752, 6, []⟩,
    ⟨(some 24), .load 6 true (.t 23), none, 395008, 7, []⟩,
    ⟨(some 25), .call 154 [(.t 20), (.t 24)] true, none, 395264, 8, []⟩,
    ⟨(some 26), .not (.t 25), none, 395520, 9, []⟩])
  (.cond (.t 26)
   (.seq (.reg [⟨(some 4), .mv (.k (.bool false)), none, 458752, 0, []⟩])
   (.ret))
   (.skip))))
  (.reg [⟨(some 15), .mv (.t 5), none, 327680, 0, []⟩,
    ⟨(some 16), .bin .add (.t 15) (.k (.int .i64 1)), none, 327936, 1, []⟩,
    ⟨(some 5), .mv (.t 16), none, 328192, 2, []⟩]))))))
 (.seq (.reg [⟨(some 4), .mv (.k (.bool true)), none, 524288, 0, []⟩])
 (.ret))))⟩
def F74 : F := ⟨2, 51, [.t 4],
 .seq (.reg [⟨(some 4), .mv (.k (.int .i64 0)), none, 0, 0, []⟩])
 (.seq (.seq (.reg [⟨(some 5), .mv (.k (.int .i64 0)), none, 65536, 0, []⟩])
 (.block 0 (.loop [0, 1, 5] []
  (.seq (.seq (.reg [⟨(some 6), .mv (.t 5), none, 131072, 0, []⟩,
    ⟨(some 7), .mv (.t 0), none, 131328, 1, []⟩,
    ⟨(some 8), .len false (.t 7), none, 131584, 2, []⟩,
    ⟨(some 9), .bin .lss (.t 6) (.t 8), none, 131840, 3, []⟩])
  (.cond (.t 9)
   (.skip)
   (.exit 0)))
  (.seq (.block 1 (.seq (.reg [⟨(some 12), .mv (.t 0), none, 262144, 0, []⟩,
    ⟨(some 13), .mv (.t 5), none, 262400, 1, []⟩,
    ⟨(some 14), .mv (.t 1), none, 262656, 2, []⟩,
    ⟨(some 15), .call 155 [(.t 14)] true, none, 262912, 3, []⟩,
    ⟨(some 16), .iaddr 5 (.t 12) (.t 13), none, 263168, 4, []⟩,
    ⟨(some 17), .faddr 0 (.t 16), none, 263424, 5, []⟩,
    ⟨none, .stm 1 (.t 17) (.t 15), none, 263680, 6, []⟩])
  (.seq (.reg [⟨(some 18), .mv (.t 1), none, 327680, 0, []⟩,
    ⟨(some 19), .bin .add (.t 18) (.k (.int .i64 1)), none, 327936, 1, []⟩,
    ⟨(some 1), .mv (.t 19), none, 328192, 2, []⟩])
  (.seq (.reg [⟨(some 20), .mv (.t 0), none, 393216, 0, []⟩,
    ⟨(some 21), .mv (.t 5), none, 393472, 1, []⟩,
    ⟨(some 22), .mv (.t 1), none, 393728, 2, []⟩,
    ⟨(some 23), .iaddr 5 (.t 20) (.t 21), none, 393984, 3, []⟩,
    ⟨(some 24), .faddr 1 (.t 23), none, 394240, 4, []⟩,
    ⟨(some 25), .faddr 0 (.t 24), none, 394496, 5, []⟩,
    ⟨none, .stm 1 (.t 25) (.t 22), none, 394752, 6, []⟩])
  (.seq (.reg [⟨(some 26), .mv (.t 1), none, 458752, 0, []⟩,
    ⟨(some 27), .bin .add (.t 26) (.k (.int .i64 1)), none, 459008, 1, []⟩,
    ⟨(some 1), .mv (.t 27), none, 459264, 2, []⟩])
  (.seq (.reg [⟨(some 28), .mv (.t 0), none, 524288, 0, []⟩,
    ⟨(some 29), .mv (.t 5), none, 524544, 1, []⟩,
    ⟨(some 30), .mv (.t 1), none, 524800, 2, []⟩,
    ⟨(some 31), .iaddr 5 (.t 28) (.t 29), none, 525056, 3, []⟩,
    ⟨(some 32), .faddr 1 (.t 31), none, 525312, 4, []⟩,
    ⟨(some 33), .faddr 1 (.t 32), none, 525568, 5, []⟩,
    ⟨none, .stm 1 (.t 33) (.t 30), none, 525824, 6, []⟩])
  (.seq (.reg [⟨(some 34), .mv (.t 1), none, 589824, 0, []⟩,
    ⟨(some 35), .bin .add (.t 34) (.k (.int .i64 1)), none, 590080, 1, []⟩,
    ⟨(some 1), .mv (.t 35), none, 590336, 2, []⟩])
  (.seq (.reg [⟨(some 36), .mv (.t 0), none, 655360, 0, []⟩,
    ⟨(some 37), .mv (.t 5), none, 655616, 1, []⟩,
    ⟨(some 38), .mv (.t 1), none, 655872, 2, []⟩,
    ⟨(some 39), .iaddr 5 (.t 36) (.t 37), none, 656128, 3, []⟩,
    ⟨(some 40), .faddr 3 (.t 39), none, 656384, 4, []⟩,
    ⟨none, .stm 1 (.t 40) (.t 38), none, 656640, 5, []⟩])
  (.seq (.reg [⟨(some 41), .mv (.t 1), none, 720896, 0, []⟩,
    ⟨(some 42), .bin .add (.t 41) (.k (.int .i64 1)), none, 721152, 1, []⟩,
    ⟨(some 1), .mv (.t 42), none, 721408, 2, []⟩])
  (.seq (.reg [⟨(some 43), .mv (.t 0), none, 786432, 0, []⟩,
    ⟨(some 44), .mv (.t 5), none, 786688, 1, []⟩,
    ⟨(some 45), .mv (.t 1), none, 786944, 2, []⟩,
    ⟨(some 46), .iaddr 5 (.t 43) (.t 44), none, 787200, 3, []⟩,
    ⟨(some 47), .faddr 4 (.t 46), none, 787456, 4, []⟩,
    ⟨none, .stm 1 (.t 47) (.t 45), none, 787712, 5, []⟩])
  (.reg [⟨(some 48), .mv (.t 1), none, 851968, 0, []⟩,
    ⟨(some 49), .bin .add (.t 48) (.k (.int .i64 1)), none, 852224, 1, []⟩,
    ⟨(some 1), .mv (.t 49), none, 852480, 2, []⟩])))))))))))
  (.reg [⟨(some 10), .mv (.t 5), none, 196608, 0, []⟩,
    ⟨(some 11), .bin .add (.t 10) (.k (.int .i64 1)), none, 196864, 1, []⟩,
    ⟨(some 5), .mv (.t 11), none, 197120, 2, []⟩]))))))
 (.seq (.reg [⟨(some 50), .mv (.t 1), none, 917504, 0, []⟩,
   ⟨(some 4), .mv (.t 50), none, 917760, 1, []⟩])
 (.ret)))⟩
def F75 : F := ⟨2, 43, [.t 4],
 .seq (.reg [⟨(some 4), .mv (.k (.int .i64 0)), none, 0, 0, []⟩])
 (.seq (.seq (.reg [⟨(some 5), .mv (.k (.int .i64 0)), none, 65536, 0, []⟩])
 (.block 0 (.loop [0, 1, 5] []
  (.seq (.seq (.reg [⟨(some 6), .mv (.t 5), none, 131072, 0, []⟩,
    ⟨(some 7), .mv (.t 0), none, 131328, 1, []⟩,
    ⟨(some 8), .len false (.t 7), none, 131584, 2, []⟩,
    ⟨(some 9), .bin .lss (.t 6) (.t 8), none, 131840, 3, []⟩])
  (.cond (.t 9)
   (.skip)
   (.exit 0)))
  (.seq (.block 1 (.seq (.reg [⟨(some 12), .mv (.t 0), none, 262144, 0, []⟩,
    ⟨(some 13), .mv (.t 5), none, 262400, 1, []⟩,
    ⟨(some 14), .mv (.t 1), none, 262656, 2, []⟩,
    ⟨(some 15), .iaddr 4 (.t 12) (.t 13), none, 262912, 3, []⟩,
    ⟨(some 16), .faddr 0 (.t 15), none, 263168, 4, []⟩,
    ⟨none, .stm 1 (.t 16) (.t 14), none, 263424, 5, []⟩])
  (.seq (.reg [⟨(some 17), .mv (.t 1), none, 327680, 0, []⟩,
    ⟨(some 18), .bin .add (.t 17) (.k (.int .i64 1)), none, 327936, 1, []⟩,
    ⟨(some 1), .mv (.t 18), none, 328192, 2, []⟩])
  (.seq (.reg [⟨(some 19), .mv (.t 0), none, 393216, 0, []⟩,
    ⟨(some 20), .mv (.t 5), none, 393472, 1, []⟩,
    ⟨(some 21), .mv (.t 1), none, 393728, 2, []⟩,
    ⟨(some 22), .iaddr 4 (.t 19) (.t 20), none, 393984, 3, []⟩,
    ⟨(some 23), .faddr 1 (.t 22), none, 394240, 4, []⟩,
    ⟨none, .stm 1 (.t 23) (.t 21), none, 394496, 5, []⟩])
  (.seq (.reg [⟨(some 24), .mv (.t 1), none, 458752, 0, []⟩,
    ⟨(some 25), .bin .add (.t 24) (.k (.int .i64 1)), none, 459008, 1, []⟩,
    ⟨(some 1), .mv (.t 25), none, 459264, 2, []⟩])
  (.seq (.reg [⟨(some 26), .mv (.t 0), none, 524288, 0, []⟩,
    ⟨(some 27), .mv (.t 5), none, 524544, 1, []⟩,
    ⟨(some 28), .mv (.t 1), none, 524800, 2, []⟩,
    ⟨(some 29), .iaddr 4 (.t 26) (.t 27), none, 525056, 3, []⟩,
    ⟨(some 30), .faddr 2 (.t 29), none, 525312, 4, []⟩,
    ⟨(some 31), .faddr 0 (.t 30), none, 525568, 5, []⟩,
    ⟨none, .stm 1 (.t 31) (.t 28), none, 525824, 6, []⟩])
  (.seq (.reg [⟨(some 32), .mv (.t 1), none, 589824, 0, []⟩,
    ⟨(some 33), .bin .add (.t 32) (.k (.int .i64 1)), none, 590080, 1, []⟩,
    ⟨(some 1), .mv (.t 33), none, 590336, 2, []⟩])
  (.seq (.reg [⟨(some 34), .mv (.t 0), none, 655360, 0, []⟩,
    ⟨(some 35), .mv (.t 5), none, 655616, 1, []⟩,
    ⟨(some 36), .mv (.t 1), none, 655872, 2, []⟩,
    ⟨(some 37), .iaddr 4 (.t 34) (.t 35), none, 656128, 3, []⟩,
    ⟨(some 38), .faddr 2 (.t 37), none, 656384, 4, []⟩,
    ⟨(some 39), .faddr 1 (.t 38), none, 656640, 5, []⟩,
    ⟨none, .stm 1 (.t 39) (.t 36), none, 656896, 6, []⟩])
  (.reg [⟨(some 40), .mv (.t 1), none, 720896, 0, []⟩,
    ⟨(some 41), .bin .add (.t 40) (.k (.int .i64 1)), none, 721152, 1, []⟩,
    ⟨(some 1), .mv (.t 41), none, 721408, 2, []⟩])))))))))
  (.reg [⟨(some 10), .mv (.t 5), none, 196608, 0, []⟩,
    ⟨(some 11), .bin .add (.t 10) (.k (.int .i64 1)), none, 196864, 1, []⟩,
    ⟨(some 5), .mv (.t 11), none, 197120, 2, []⟩]))))))
 (.seq (.reg [⟨(some 42), .mv (.t 1), none, 786432, 0, []⟩,
   ⟨(some 4), .mv (.t 42), none, 786688, 1, []⟩])
 (.ret)))⟩
def F76 : F := ⟨2, 92, [.t 4],
 .seq (.reg [⟨(some 4), .mv (.k (.int .i64 0)), none, 0, 0, []⟩])
 (.seq (.seq (.reg [⟨(some 5), .mv (.k (.int .i64 0)), none, 65536, 0, []⟩])
 (.block 0 (.loop [0, 1, 5] []
  (.seq (.seq (.reg [⟨(some 6), .mv (.t 5), none, 131072, 0, []⟩,
    ⟨(some 7), .mv (.t 0), none, 131328, 1, []⟩,
    ⟨(some 8), .len false (.t 7), none, 131584, 2, []⟩,
    ⟨(some 9), .bin .lss (.t 6) (.t 8), none, 131840, 3, []⟩])
  (.cond (.t 9)
   (.skip)
   (.exit 0)))
  (.seq (.block 1 (.seq (.reg [⟨(some 12), .mv (.t 0), none, 262144, 0, []⟩,
    ⟨(some 13), .mv (.t 5), none, 262400, 1, []⟩,
    ⟨(some 14), .mv (.t 1), none, 262656, 2, []⟩,
    ⟨(some 15), .iaddr 10 (.t 12) (.t 13), none, 262912, 3, []⟩,
    ⟨(some 16), .faddr 0 (.t 15), none, 263168, 4, []⟩,
    ⟨(some 17), .faddr 0 (.t 16), none, 263424, 5, []⟩,
    ⟨none, .stm 1 (.t 17) (.t 14), none, 263680, 6, []⟩])
  (.seq (.reg [⟨(some 18), .mv (.t 1), none, 327680, 0, []⟩,
    ⟨(some 19), .bin .add (.t 18) (.k (.int .i64 1)), none, 327936, 1, []⟩,
    ⟨(some 1), .mv (.t 19), none, 328192, 2, []⟩])
  (.seq (.reg [⟨(some 20), .mv (.t 0), none, 393216, 0, []⟩,
    ⟨(some 21), .mv (.t 5), none, 393472, 1, []⟩,
    ⟨(some 22), .mv (.t 1), none, 393728, 2, []⟩,
    ⟨(some 23), .iaddr 10 (.t 20) (.t 21), none, 393984, 3, []⟩,
    ⟨(some 24), .faddr 0 (.t 23), none, 394240, 4, []⟩,
    ⟨(some 25), .faddr 1 (.t 24), none, 394496, 5, []⟩,
    ⟨none, .stm 1 (.t 25) (.t 22), none, 394752, 6, []⟩])
  (.seq (.reg [⟨(some 26), .mv (.t 1), none, 458752, 0, []⟩,
    ⟨(some 27), .bin .add (.t 26) (.k (.int .i64 1)), none, 459008, 1, []⟩,
    ⟨(some 1), .mv (.t 27), none, 459264, 2, []⟩])
  (.seq (.reg [⟨(some 28), .mv (.t 0), none, 524288, 0, []⟩,
    ⟨(some 29), .mv (.t 5), none, 524544, 1, []⟩,
    ⟨(some 30), .mv (.t 1), none, 524800, 2, []⟩,
    ⟨(some 31), .iaddr 10 (.t 28) (.t 29), none, 525056, 3, []⟩,
    ⟨(some 32), .faddr 2 (.t 31), none, 525312, 4, []⟩,
    ⟨(some 33), .faddr 0 (.t 32), none, 525568, 5, []⟩,
    ⟨none, .stm 1 (.t 33) (.t 30), none, 525824, 6, []⟩])
  (.seq (.reg [⟨(some 34), .mv (.t 1), none, 589824, 0, []⟩,
    ⟨(some 35), .bin .add (.t 34) (.k (.int .i64 1)), none, 590080, 1, []⟩,
    ⟨(some 1), .mv (.t 35), none, 590336, 2, []⟩])
  (.seq (.reg [⟨(some 36), .mv (.t 0), none, 655360, 0, []⟩,
    ⟨(some 37), .mv (.t 5), none, 655616, 1, []⟩,
    ⟨(some 38), .mv (.t 1), none, 655872, 2, []⟩,
    ⟨(some 39), .iaddr 10 (.t 36) (.t 37), none, 656128, 3, []⟩,
    ⟨(some 40), .faddr 2 (.t 39), none, 656384, 4, []⟩,
    ⟨(some 41), .faddr 1 (.t 40), none, 656640, 5, []⟩,
    ⟨none, .stm 1 (.t 41) (.t 38), none, 656896, 6, []⟩])
  (.seq (.reg [⟨(some 42), .mv (.t 1), none, 720896, 0, []⟩,
    ⟨(some 43), .bin .add (.t 42) (.k (.int .i64 1)), none, 721152, 1, []⟩,
    ⟨(some 1), .mv (.t 43), none, 721408, 2, []⟩])
  (.seq (.reg [⟨(some 44), .mv (.t 0), none, 786432, 0, []⟩,
    ⟨(some 45), .mv (.t 5), none, 786688, 1, []⟩,
    ⟨(some 46), .mv (.t 1), none, 786944, 2, []⟩,
    ⟨(some 47), .call 155 [(.t 46)] true, none, 787200, 3, []⟩,
    ⟨(some 48), .iaddr 10 (.t 44) (.t 45), none, 787456, 4, []⟩,
    ⟨(some 49), .faddr 4 (.t 48), none, 787712, 5, []⟩,
    ⟨none, .stm 1 (.t 49) (.t 47), none, 787968, 6, []⟩])
  (.seq (.reg [⟨(some 50), .mv (.t 1), none, 851968, 0, []⟩,
    ⟨(some 51), .bin .add (.t 50) (.k (.int .i64 1)), none, 852224, 1, []⟩,
    ⟨(some 1), .mv (.t 51), none, 852480, 2, []⟩])
  (.seq (.reg [⟨(some 52), .mv (.t 0), none, 917504, 0, []⟩,
    ⟨(some 53), .mv (.t 5), none, 917760, 1, []⟩,
    ⟨(some 54), .mv (.t 1), none, 918016, 2, []⟩,
    ⟨(some 55), .bin .rem (.t 54) (.k (.int .i64 3)), none, 918272, 3, []⟩,
    ⟨(some 56), .bin .eql (.t 55) (.k (.int .i64 0)), none, 918528, 4, []⟩,
    ⟨(some 57), .iaddr 10 (.t 52) (.t 53), none, 918784, 5, []⟩,
    ⟨(some 58), .faddr 5 (.t 57), none, 919040, 6, []⟩,
    ⟨none, .stm 1 (.t 58) (.t 56), none, 919296, 7, []⟩])
  (.seq (.reg [⟨(some 59), .mv (.t 1), none, 983040, 0, []⟩,
    ⟨(some 60), .bin .add (.t 59) (.k (.int .i64 1)), none, 983296, 1, []⟩,
    ⟨(some 1), .mv (.t 60), none, 983552, 2, []⟩])
  (.seq (.reg [⟨(some 61), .mv (.t 0), none, 1048576, 0, []⟩,
    ⟨(some 62), .mv (.t 5), none, 1048832, 1, []⟩,
    ⟨(some 63), .mv (.t 1), none, 1049088, 2, []⟩,
    ⟨(some 64), .iaddr 10 (.t 61) (.t 62), none, 1049344, 3, []⟩,
    ⟨(some 65), .faddr 6 (.t 64), none, 1049600, 4, []⟩,
    ⟨none, .stm 1 (.t 65) (.t 63), none, 1049856, 5, []⟩])
  (.seq (.reg [⟨(some 66), .mv (.t 1), none, 1114112, 0, []⟩,
    ⟨(some 67), .bin .add (.t 66) (.k (.int .i64 1)), none, 1114368, 1, []⟩,
    ⟨(some 1), .mv (.t 67), none, 1114624, 2, []⟩])
  (.seq (.reg [⟨(some 68), .mv (.t 0), none, 1179648, 0, []⟩,
    ⟨(some 69), .mv (.t 5), none, 1179904, 1, []⟩,
    ⟨(some 70), .mv (.t 1), none, 1180160, 2, []⟩,
    ⟨(some 71), .iaddr 10 (.t 68) (.t 69), none, 1180416, 3, []⟩,
    ⟨(some 72), .faddr 7 (.t 71), none, 1180672, 4, []⟩,
    ⟨none, .stm 1 (.t 72) (.t 70), none, 1180928, 5, []⟩])
  (.seq (.reg [⟨(some 73), .mv (.t 1), none, 1245184, 0, []⟩,
    ⟨(some 74), .bin .add (.t 73) (.k (.int .i64 1)), none, 1245440, 1, []⟩,
    ⟨(some 1), .mv (.t 74), none, 1245696, 2, []⟩])
  (.seq (.reg [⟨(some 75), .mv (.t 0), none, 1310720, 0, []⟩,
    ⟨(some 76), .mv (.t 5), none, 1310976, 1, []⟩,
    ⟨(some 77), .mv (.t 1), none, 1311232, 2, []⟩,
    ⟨(some 78), .iaddr 10 (.t 75) (.t 76), none, 1311488, 3, []⟩,
    ⟨(some 79), .faddr 8 (.t 78), none, 1311744, 4, []⟩,
    ⟨(some 80), .faddr 0 (.t 79), none, 1312000, 5, []⟩,
    ⟨none, .stm 1 (.t 80) (.t 77), none, 1312256, 6, []⟩])
  (.seq (.reg [⟨(some 81), .mv (.t 1), none, 1376256, 0, []⟩,
    ⟨(some 82), .bin .add (.t 81) (.k (.int .i64 1)), none, 1376512, 1, []⟩,
    ⟨(some 1), .mv (.t 82), none, 1376768, 2, []⟩])
  (.seq (.reg [⟨(some 83), .mv (.t 0), none, 1441792, 0, []⟩,
    ⟨(some 84), .mv (.t 5), none, 1442048, 1, []⟩,
    ⟨(some 85), .mv (.t 1), none, 1442304, 2, []⟩,
    ⟨(some 86), .iaddr 10 (.t 83) (.t 84), none, 1442560, 3, []⟩,
    ⟨(some 87), .faddr 8 (.t 86), none, 1442816, 4, []⟩,
    ⟨(some 88), .faddr 1 (.t 87), none, 1443072, 5, []⟩,
    ⟨none, .stm 1 (.t 88) (.t 85), none, 1443328, 6, []⟩])
  (.reg [⟨(some 89), .mv (.t 1), none, 1507328, 0, []⟩,
    ⟨(some 90), .bin .add (.t 89) (.k (.int .i64 1)), none, 1507584, 1, []⟩,
    ⟨(some 1), .mv (.t 90), none, 1507840, 2, []⟩])))))))))))))))))))))
  (.reg [⟨(some 10), .mv (.t 5), none, 196608, 0, []⟩,
    ⟨(some 11), .bin .add (.t 10) (.k (.int .i64 1)), none, 196864, 1, []⟩,
    ⟨(some 5), .mv (.t 11), none, 197120, 2, []⟩]))))))
 (.seq (.reg [⟨(some 91), .mv (.t 1), none, 1572864, 0, []⟩,
   ⟨(some 4), .mv (.t 91), none, 1573120, 1, []⟩])
 (.ret)))⟩
def F77 : F := ⟨2, 59, [.t 4],
 .seq (.reg [⟨(some 4), .mv (.k (.int .i64 0)), none, 0, 0, []⟩])
 (.seq (.seq (.reg [⟨(some 5), .mv (.k (.int .i64 0)), none, 65536, 0, []⟩])
 (.block 0 (.loop [0, 1, 5] []
  (.seq (.seq (.reg [⟨(some 6), .mv (.t 5), none, 131072, 0, []⟩,
    ⟨(some 7), .mv (.t 0), none, 131328, 1, []⟩,
    ⟨(some 8), .len false (.t 7), none, 131584, 2, []⟩,
    ⟨(some 9), .bin .lss (.t 6) (.t 8), none, 131840, 3, []⟩])
  (.cond (.t 9)
   (.skip)
   (.exit 0)))
  (.seq (.block 1 (.seq (.reg [⟨(some 12), .mv (.t 0), none, 262144, 0, []⟩,
    ⟨(some 13), .mv (.t 5), none, 262400, 1, []⟩,
    ⟨(some 14), .mv (.t 1), none, 262656, 2, []⟩,
    ⟨(some 15), .call 155 [(.t 14)] true, none, 262912, 3, []⟩,
    ⟨(some 16), .iaddr 6 (.t 12) (.t 13), none, 263168, 4, []⟩,
    ⟨(some 17), .faddr 0 (.t 16), none, 263424, 5, []⟩,
    ⟨none, .stm 1 (.t 17) (.t 15), none, 263680, 6, []⟩])
  (.seq (.reg [⟨(some 18), .mv (.t 1), none, 327680, 0, []⟩,
    ⟨(some 19), .bin .add (.t 18) (.k (.int .i64 1)), none, 327936, 1, []⟩,
    ⟨(some 1), .mv (.t 19), none, 328192, 2, []⟩])
  (.seq (.reg [⟨(some 20), .mv (.t 0), none, 393216, 0, []⟩,
    ⟨(some 21), .mv (.t 5), none, 393472, 1, []⟩,
    ⟨(some 22), .mv (.t 1), none, 393728, 2, []⟩,
    ⟨(some 23), .iaddr 6 (.t 20) (.t 21), none, 393984, 3, []⟩,
    ⟨(some 24), .faddr 1 (.t 23), none, 394240, 4, []⟩,
    ⟨(some 25), .faddr 0 (.t 24), none, 394496, 5, []⟩,
    ⟨none, .stm 1 (.t 25) (.t 22), none, 394752, 6, []⟩])
  (.seq (.reg [⟨(some 26), .mv (.t 1), none, 458752, 0, []⟩,
    ⟨(some 27), .bin .add (.t 26) (.k (.int .i64 1)), none, 459008, 1, []⟩,
    ⟨(some 1), .mv (.t 27), none, 459264, 2, []⟩])
  (.seq (.reg [⟨(some 28), .mv (.t 0), none, 524288, 0, []⟩,
    ⟨(some 29), .mv (.t 5), none, 524544, 1, []⟩,
    ⟨(some 30), .mv (.t 1), none, 524800, 2, []⟩,
    ⟨(some 31), .iaddr 6 (.t 28) (.t 29), none, 525056, 3, []⟩,
    ⟨(some 32), .faddr 1 (.t 31), none, 525312, 4, []⟩,
    ⟨(some 33), .faddr 1 (.t 32), none, 525568, 5, []⟩,
    ⟨none, .stm 1 (.t 33) (.t 30), none, 525824, 6, []⟩])
  (.seq (.reg [⟨(some 34), .mv (.t 1), none, 589824, 0, []⟩,
    ⟨(some 35), .bin .add (.t 34) (.k (.int .i64 1)), none, 590080, 1, []⟩,
    ⟨(some 1), .mv (.t 35), none, 590336, 2, []⟩])
  (.seq (.reg [⟨(some 36), .mv (.t 0), none, 655360, 0, []⟩,
    ⟨(some 37), .mv (.t 5), none, 655616, 1, []⟩,
    ⟨(some 38), .mv (.t 1), none, 655872, 2, []⟩,
    ⟨(some 39), .iaddr 6 (.t 36) (.t 37), none, 656128, 3, []⟩,
    ⟨(some 40), .faddr 3 (.t 39), none, 656384, 4, []⟩,
    ⟨none, .stm 1 (.t 40) (.t 38), none, 656640, 5, []⟩])
  (.seq (.reg [⟨(some 41), .mv (.t 1), none, 720896, 0, []⟩,
    ⟨(some 42), .bin .add (.t 41) (.k (.int .i64 1)), none, 721152, 1, []⟩,
    ⟨(some 1), .mv (.t 42), none, 721408, 2, []⟩])
  (.seq (.reg [⟨(some 43), .mv (.t 0), none, 786432, 0, []⟩,
    ⟨(some 44), .mv (.t 5), none, 786688, 1, []⟩,
    ⟨(some 45), .mv (.t 1), none, 786944, 2, []⟩,
    ⟨(some 46), .iaddr 6 (.t 43) (.t 44), none, 787200, 3, []⟩,
    ⟨(some 47), .faddr 4 (.t 46), none, 787456, 4, []⟩,
    ⟨none, .stm 1 (.t 47) (.t 45), none, 787712, 5, []⟩])
  (.seq (.reg [⟨(some 48), .mv (.t 1), none, 851968, 0, []⟩,
    ⟨(some 49), .bin .add (.t 48) (.k (.int .i64 1)), none, 852224, 1, []⟩,
    ⟨(some 1), .mv (.t 49), none, 852480, 2, []⟩])
  (.seq (.reg [⟨(some 50), .mv (.t 0), none, 917504, 0, []⟩,
    ⟨(some 51), .mv (.t 5), none, 917760, 1, []⟩,
    ⟨(some 52), .mv (.t 1), none, 918016, 2, []⟩,
    ⟨(some 53), .call 155 [(.t 52)] true, none, 918272, 3, []⟩,
    ⟨(some 54), .iaddr 6 (.t 50) (.t 51), none, 918528, 4, []⟩,
    ⟨(some 55), .faddr 5 (.t 54), none, 918784, 5, []⟩,
    ⟨none, .stm 1 (.t 55) (.t 53), none, 919040, 6, []⟩])
  (.reg [⟨(some 56), .mv (.t 1), none, 983040, 0, []⟩,
    ⟨(some 57), .bin .add (.t 56) (.k (.int .i64 1)), none, 983296, 1, []⟩,
    ⟨(some 1), .mv (.t 57), none, 983552, 2, []⟩])))))))))))))
  (.reg [⟨(some 10), .mv (.t 5), none, 196608, 0, []⟩,
    ⟨(some 11), .bin .add (.t 10) (.k (.int .i64 1)), none, 196864, 1, []⟩,
    ⟨(some 5), .mv (.t 11), none, 197120, 2, []⟩]))))))
 (.seq (.reg [⟨(some 58), .mv (.t 1), none, 1048576, 0, []⟩,
   ⟨(some 4), .mv (.t 58), none, 1048832, 1, []⟩])
 (.ret)))⟩
def F78 : F := ⟨2, 61, [.t 4],
 .seq (.reg [⟨(some 4), .mv (.k (.int .i64 0)), none, 0, 0, []⟩])
 (.seq (.seq (.reg [⟨(some 5), .mv (.k (.int .i64 0)), none, 65536, 0, []⟩])
 (.block 0 (.loop [0, 1, 5] []
  (.seq (.seq (.reg [⟨(some 6), .mv (.t 5), none, 131072, 0, []⟩,
    ⟨(some 7), .mv (.t 0), none, 131328, 1, []⟩,
    ⟨(some 8), .len false (.t 7), none, 131584, 2, []⟩,
    ⟨(some 9), .bin .lss (.t 6) (.t 8), none, 131840, 3, []⟩])
  (.cond (.t 9)
   (.skip)
   (.exit 0)))
  (.seq (.block 1 (.seq (.seq (.reg [⟨(some 12), .mv (.t 0), none, 262144, 0, []⟩,
    ⟨(some 13), .mv (.t 5), none, 262400, 1, []⟩,
    ⟨(some 14), .iaddr 5 (.t 12) (.t 13), none, 262656, 2, []⟩,
    ⟨(some 15), .faddr 0 (.t 14), none, 262912, 3, []⟩,
    ⟨(some 16), .load 1 false (.t 15), none, 263168, 4, []⟩,
    ⟨(some 17), .mv (.t 1), none, 263424, 5, []⟩,
    ⟨(some 18), .call 155 [(.t 17)] true, none, 263680, 6, []⟩,
    ⟨(some 19), .bin .neq (.t 16) (.t 18), none, 263936, 7, []⟩])
  (.cond (.t 19)
   (.seq (.reg [⟨(some 4), .mv (.k (.int .i64 (-1))), none, 327680, 0, []⟩])
   (.ret))
   (.skip)))
  (.seq (.reg [⟨(some 20), .mv (.t 1), none, 393216, 0, []⟩,
    ⟨(some 21), .bin .add (.t 20) (.k (.int .i64 1)), none, 393472, 1, []⟩,
    ⟨(some 1), .mv (.t 21), none, 393728, 2, []⟩])
  (.seq (.seq (.reg [⟨(some 22), .mv (.t 0), none, 458752, 0, []⟩,
    ⟨(some 23), .mv (.t 5), none, 459008, 1, []⟩,
    ⟨(some 24), .iaddr 5 (.t 22) (.t 23), none, 459264, 2, []⟩,
    ⟨(some 25), .faddr 1 (.t 24), none, 459520, 3, []⟩,
    ⟨(some 26), .faddr 0 (.t 25), none, 459776, 4, []⟩,
    ⟨(some 27), .load 1 false (.t 26), none, 460032, 5, []⟩,
    ⟨(some 28), .mv (.t 1), none, 460288, 6, []⟩,
    ⟨(some 29), .bin .neq (.t 27) (.t 28), none, 460544, 7, []⟩])
  (.cond (.t 29)
   (.seq (.reg [⟨(some 4), .mv (.k (.int .i64 (-1))), none, 524288, 0, []⟩])
   (.ret))
   (.skip)))
  (.seq (.reg [⟨(some 30), .mv (.t 1), none, 589824, 0, []⟩,
    ⟨(some 31), .bin .add (.t 30) (.k (.int .i64 1)), none, 590080, 1, []⟩,
    ⟨(some 1), .mv (.t 31), none, 590336, 2, []⟩])
  (.seq (.seq (.reg [⟨(some 32), .mv (.t 0), none, 655360, 0, []⟩,
    ⟨(some 33), .mv (.t 5), none, 655616, 1, []⟩,
    ⟨(some 34), .iaddr 5 (.t 32) (.t 33), none, 655872, 2, []⟩,
    ⟨(some 35), .faddr 1 (.t 34), none, 656128, 3, []⟩,
    ⟨(some 36), .faddr 1 (.t 35), none, 656384, 4, []⟩,
    ⟨(some 37), .load 1 false (.t 36), none, 656640, 5, []⟩,
    ⟨(some 38), .mv (.t 1), none, 656896, 6, []⟩,
    ⟨(some 39), .bin .neq (.t 37) (.t 38), none, 657152, 7, []⟩])
  (.cond (.t 39)
   (.seq (.reg [⟨(some 4), .mv (.k (.int .i64 (-1))), none, 720896, 0, []⟩])
   (.ret))
   (.skip)))
  (.seq (.reg [⟨(some 40), .mv (.t 1), none, 786432, 0, []⟩,
    ⟨(some 41), .bin .add (.t 40) (.k (.int .i64 1)), none, 786688, 1, []⟩,
    ⟨(some 1), .mv (.t 41), none, 786944, 2, []⟩])
  (.seq (.seq (.reg [⟨(some 42), .mv (.t 0), none, 851968, 0, []⟩,
    ⟨(some 43), .mv (.t 5), none, 852224, 1, []⟩,
    ⟨(some 44), .iaddr 5 (.t 42) (.t 43), none, 852480, 2, []⟩,
    ⟨(some 45), .faddr 3 (.t 44), none, 852736, 3, []⟩,
    ⟨(some 46), .load 1 false (.t 45), none, 852992, 4, []⟩,
    ⟨(some 47), .mv (.t 1), none, 853248, 5, []⟩,
    ⟨(some 48), .bin .neq (.t 46) (.t 47), none, 853504, 6, []⟩])
  (.cond (.t 48)
   (.seq (.reg [⟨(some 4), .mv (.k (.int .i64 (-1))), none, 917504, 0, []⟩])
   (.ret))
   (.skip)))
  (.seq (.reg [⟨(some 49), .mv (.t 1), none, 983040, 0, []⟩,
    ⟨(some 50), .bin .add (.t 49) (.k (.int .i64 1)), none, 983296, 1, []⟩,
    ⟨(some 1), .mv (.t 50), none, 983552, 2, []⟩])
  (.seq (.seq (.reg [⟨(some 51), .mv (.t 0), none, 1048576, 0, []⟩,
    ⟨(some 52), .mv (.t 5), none, 1048832, 1, []⟩,
    ⟨(some 53), .iaddr 5 (.t 51) (.t 52), none, 1049088, 2, []⟩,
    ⟨(some 54), .faddr 4 (.t 53), none, 1049344, 3, []⟩,
    ⟨(some 55), .load 1 false (.t 54), none, 1049600, 4, []⟩,
    ⟨(some 56), .mv (.t 1), none, 1049856, 5, []⟩,
    ⟨(some 57), .bin .neq (.t 55) (.t 56), none, 1050112, 6, []⟩])
  (.cond (.t 57)
   (.seq (.reg [⟨(some 4), .mv (.k (.int .i64 (-1))), none, 1114112, 0, []⟩])
   (.ret))
   (.skip)))
  (.reg [⟨(some 58), .mv (.t 1), none, 1179648, 0, []⟩,
    ⟨(some 59), .bin .add (.t 58) (.k (.int .i64 1)), none, 1179904, 1, []⟩,
    ⟨(some 1), .mv (.t 59), none, 1180160, 2, []⟩])))))))))))
  (.reg [⟨(some 10), .mv (.t 5), none, 196608, 0, []⟩,
    ⟨(some 11), .bin .add (.t 10) (.k (.int .i64 1)), none, 196864, 1, []⟩,
    ⟨(some 5), .mv (.t 11), none, 197120, 2, []⟩]))))))
 (.seq (.reg [⟨(some 60), .mv (.t 1), none, 1245184, 0, []⟩,
   ⟨(some 4), .mv (.t 60), none, 1245440, 1, []⟩])
 (.ret)))⟩
def F79 : F := ⟨2, 51, [.t 4],
 .seq (.reg [⟨(some 4), .mv (.k (.int .i64 0)), none, 0, 0, []⟩])
 (.seq (.seq (.reg [⟨(some 5), .mv (.k (.int .i64 0)), none, 65536, 0, []⟩])
 (.block 0 (.loop [0, 1, 5] []
  (.seq (.seq (.reg [⟨(some 6), .mv (.t 5), none, 131072, 0, []⟩,
    ⟨(some 7), .mv (.t 0), none, 131328, 1, []⟩,
    ⟨(some 8), .len false (.t 7), none, 131584, 2, []⟩,
    ⟨(some 9), .bin .lss (.t 6) (.t 8), none, 131840, 3, []⟩])
  (.cond (.t 9)
   (.skip)
   (.exit 0)))
  (.seq (.block 1 (.seq (.seq (.reg [⟨(some 12), .mv (.t 0), none, 262144, 0, []⟩,
    ⟨(some 13), .mv (.t 5), none, 262400, 1, []⟩,
    ⟨(some 14), .iaddr 4 (.t 12) (.t 13), none, 262656, 2, []⟩,
    ⟨(some 15), .faddr 0 (.t 14), none, 262912, 3, []⟩,
    ⟨(some 16), .load 1 false (.t 15), none, 263168, 4, []⟩,
    ⟨(some 17), .mv (.t 1), none, 263424, 5, []⟩,
    ⟨(some 18), .bin .neq (.t 16) (.t 17), none, 263680, 6, []⟩])
  (.cond (.t 18)
   (.seq (.reg [⟨(some 4), .mv (.k (.int .i64 (-1))), none, 327680, 0, []⟩])
   (.ret))
   (.skip)))
  (.seq (.reg [⟨(some 19), .mv (.t 1), none, 393216, 0, []⟩,
    ⟨(some 20), .bin .add (.t 19) (.k (.int .i64 1)), none, 393472, 1, []⟩,
    ⟨(some 1), .mv (.t 20), none, 393728, 2, []⟩])
  (.seq (.seq (.reg [⟨(some 21), .mv (.t 0), none, 458752, 0, []⟩,
    ⟨(some 22), .mv (.t 5), none, 459008, 1, []⟩,
    ⟨(some 23), .iaddr 4 (.t 21) (.t 22), none, 459264, 2, []⟩,
    ⟨(some 24), .faddr 1 (.t 23), none, 459520, 3, []⟩,
    ⟨(some 25), .load 1 false (.t 24), none, 459776, 4, []⟩,
    ⟨(some 26), .mv (.t 1), none, 460032, 5, []⟩,
    ⟨(some 27), .bin .neq (.t 25) (.t 26), none, 460288, 6, []⟩])
  (.cond (.t 27)
   (.seq (.reg [⟨(some 4), .mv (.k (.int .i64 (-1))), none, 524288, 0, []⟩])
   (.ret))
   (.skip)))
  (.seq (.reg [⟨(some 28), .mv (.t 1), none, 589824, 0, []⟩,
    ⟨(some 29), .bin .add (.t 28) (.k (.int .i64 1)), none, 590080, 1, []⟩,
    ⟨(some 1), .mv (.t 29), none, 590336, 2, []⟩])
  (.seq (.seq (.reg [⟨(some 30), .mv (.t 0), none, 655360, 0, []⟩,
    ⟨(some 31), .mv (.t 5), none, 655616, 1, []⟩,
    ⟨(some 32), .iaddr 4 (.t 30) (.t 31), none, 655872, 2, []⟩,
    ⟨(some 33), .faddr 2 (.t 32), none, 656128, 3, []⟩,
    ⟨(some 34), .faddr 0 (.t 33), none, 656384, 4, []⟩,
    ⟨(some 35), .load 1 false (.t 34), none, 656640, 5, []⟩,
    ⟨(some 36), .mv (.t 1), none, 656896, 6, []⟩,
    ⟨(some 37), .bin .neq (.t 35) (.t 36), none, 657152, 7, []⟩])
  (.cond (.t 37)
   (.seq (.reg [⟨(some 4), .mv (.k (.int .i64 (-1))), none, 720896, 0, []⟩])
   (.ret))
   (.skip)))
  (.seq (.reg [⟨(some 38), .mv (.t 1), none, 786432, 0, []⟩,
    ⟨(some 39), .bin .add (.t 38) (.k (.int .i64 1)), none, 786688, 1, []⟩,
    ⟨(some 1), .mv (.t 39), none, 786944, 2, []⟩])
  (.seq (.seq (.reg [⟨(some 40), .mv (.t 0), none, 851968, 0, []⟩,
    ⟨(some 41), .mv (.t 5), none, 852224, 1, []⟩,
    ⟨(some 42), .iaddr 4 (.t 40) (.t 41), none, 852480, 2, []⟩,
    ⟨(some 43), .faddr 2 (.t 42), none, 852736, 3, []⟩,
    ⟨(some 44), .faddr 1 (.t 43), none, 852992, 4, []⟩,
    ⟨(some 45), .load 1 false (.t 44), none, 853248, 5, []⟩,
    ⟨(some 46), .mv (.t 1), none, 853504, 6, []⟩,
    ⟨(some 47), .bin .neq (.t 45) (.t 46), none, 853760, 7, []⟩])
  (.cond (.t 47)
   (.seq (.reg [⟨(some 4), .mv (.k (.int .i64 (-1))), none, 917504, 0, []⟩])
   (.ret))
   (.skip)))
  (.reg [⟨(some 48), .mv (.t 1), none, 983040, 0, []⟩,
    ⟨(some 49), .bin .add (.t 48) (.k (.int .i64 1)), none, 983296, 1, []⟩,
    ⟨(some 1), .mv (.t 49), none, 983552, 2, []⟩])))))))))
  (.reg [⟨(some 10), .mv (.t 5), none, 196608, 0, []⟩,
    ⟨(some 11), .bin .add (.t 10) (.k (.int .i64 1)), none, 196864, 1, []⟩,
    ⟨(some 5), .mv (.t 11), none, 197120, 2, []⟩]))))))
 (.seq (.reg [⟨(some 50), .mv (.t 1), none, 1048576, 0, []⟩,
   ⟨(some 4), .mv (.t 50), none, 1048832, 1, []⟩])
 (.ret)))⟩
def F80 : F := ⟨2, 112, [.t 4],
 .seq (.reg [⟨(some 4), .mv (.k (.int .i64 0)), none, 0, 0, []⟩])
 (.seq (.seq (.reg [⟨(some 5), .mv (.k (.int .i64 0)), none, 65536, 0, []⟩])
 (.block 0 (.loop [0, 1, 5] []
  (.seq (.seq (.reg [⟨(some 6), .mv (.t 5), none, 131072, 0, []⟩,
    ⟨(some 7), .mv (.t 0), none, 131328, 1, []⟩,
    ⟨(some 8), .len false (.t 7), none, 131584, 2, []⟩,
    ⟨(some 9), .bin .lss (.t 6) (.t 8), none, 131840, 3, []⟩])
  (.cond (.t 9)
   (.skip)
   (.exit 0)))
  (.seq (.block 1 (.seq (.seq (.reg [⟨(some 12), .mv (.t 0), none, 262144, 0, []⟩,
    ⟨(some 13), .mv (.t 5), none, 262400, 1, []⟩,
    ⟨(some 14), .iaddr 10 (.t 12) (.t 13), none, 262656, 2, []⟩,
    ⟨(some 15), .faddr 0 (.t 14), none, 262912, 3, []⟩,
    ⟨(some 16), .faddr 0 (.t 15), none, 263168, 4, []⟩,
    ⟨(some 17), .load 1 false (.t 16), none, 263424, 5, []⟩,
    ⟨(some 18), .mv (.t 1), none, 263680, 6, []⟩,
    ⟨(some 19), .bin .neq (.t 17) (.t 18), none, 263936, 7, []⟩])
  (.cond (.t 19)
   (.seq (.reg [⟨(some 4), .mv (.k (.int .i64 (-1))), none, 327680, 0, []⟩])
   (.ret))
   (.skip)))
  (.seq (.reg [⟨(some 20), .mv (.t 1), none, 393216, 0, []⟩,
    ⟨(some 21), .bin .add (.t 20) (.k (.int .i64 1)), none, 393472, 1, []⟩,
    ⟨(some 1), .mv (.t 21), none, 393728, 2, []⟩])
  (.seq (.seq (.reg [⟨(some 22), .mv (.t 0), none, 458752, 0, []⟩,
    ⟨(some 23), .mv (.t 5), none, 459008, 1, []⟩,
    ⟨(some 24), .iaddr 10 (.t 22) (.t 23), none, 459264, 2, []⟩,
    ⟨(some 25), .faddr 0 (.t 24), none, 459520, 3, []⟩,
    ⟨(some 26), .faddr 1 (.t 25), none, 459776, 4, []⟩,
    ⟨(some 27), .load 1 false (.t 26), none, 460032, 5, []⟩,
    ⟨(some 28), .mv (.t 1), none, 460288, 6, []⟩,
    ⟨(some 29), .bin .neq (.t 27) (.t 28), none, 460544, 7, []⟩])
  (.cond (.t 29)
   (.seq (.reg [⟨(some 4), .mv (.k (.int .i64 (-1))), none, 524288, 0, []⟩])
   (.ret))
   (.skip)))
  (.seq (.reg [⟨(some 30), .mv (.t 1), none, 589824, 0, []⟩,
    ⟨(some 31), .bin .add (.t 30) (.k (.int .i64 1)), none, 590080, 1, []⟩,
    ⟨(some 1), .mv (.t 31), none, 590336, 2, []⟩])
  (.seq (.seq (.reg [⟨(some 32), .mv (.t 0), none, 655360, 0, []⟩,
    ⟨(some 33), .mv (.t 5), none, 655616, 1, []⟩,
    ⟨(some 34), .iaddr 10 (.t 32) (.t 33), none, 655872, 2, []⟩,
    ⟨(some 35), .faddr 2 (.t 34), none, 656128, 3, []⟩,
    ⟨(some 36), .faddr 0 (.t 35), none, 656384, 4, []⟩,
    ⟨(some 37), .load 1 false (.t 36), none, 656640, 5, []⟩,
    ⟨(some 38), .mv (.t 1), none, 656896, 6, []⟩,
    ⟨(some 39), .bin .neq (.t 37) (.t 38), none, 657152, 7, []⟩])
  (.cond (.t 39)
   (.seq (.reg [⟨(some 4), .mv (.k (.int .i64 (-1))), none, 720896, 0, []⟩])
   (.ret))
   (.skip)))
  (.seq (.reg [⟨(some 40), .mv (.t 1), none, 786432, 0, []⟩,
    ⟨(some 41), .bin .add (.t 40) (.k (.int .i64 1)), none, 786688, 1, []⟩,
    ⟨(some 1), .mv (.t 41), none, 786944, 2, []⟩])
  (.seq (.seq (.reg [⟨(some 42), .mv (.t 0), none, 851968, 0, []⟩,
    ⟨(some 43), .mv (.t 5), none, 852224, 1, []⟩,
    ⟨(some 44), .iaddr 10 (.t 42) (.t 43), none, 852480, 2, []⟩,
    ⟨(some 45), .faddr 2 (.t 44), none, 852736, 3, []⟩,
    ⟨(some 46), .faddr 1 (.t 45), none, 852992, 4, []⟩,
    ⟨(some 47), .load 1 false (.t 46), none, 853248, 5, []⟩,
    ⟨(some 48), .mv (.t 1), none, 853504, 6, []⟩,
    ⟨(some 49), .bin .neq (.t 47) (.t 48), none, 853760, 7, []⟩])
  (.cond (.t 49)
   (.seq (.reg [⟨(some 4), .mv (.k (.int .i64 (-1))), none, 917504, 0, []⟩])
   (.ret))
   (.skip)))
  (.seq (.reg [⟨(some 50), .mv (.t 1), none, 983040, 0, []⟩,
    ⟨(some 51), .bin .add (.t 50) (.k (.int .i64 1)), none, 983296, 1, []⟩,
    ⟨(some 1), .mv (.t 51), none, 983552, 2, []⟩])
  (.seq (.seq (.reg [⟨(some 52), .mv (.t 0), none, 1048576, 0, []⟩,
    ⟨(some 53), .mv (.t 5), none, 1048832, 1, []⟩,
    ⟨(some 54), .iaddr 10 (.t 52) (.t 53), none, 1049088, 2, []⟩,
    ⟨(some 55), .faddr 4 (.t 54), none, 1049344, 3, []⟩,
    ⟨(some 56), .load 1 false (.t 55), none, 1049600, 4, []⟩,
    ⟨(some 57), .mv (.t 1), none, 1049856, 5, []⟩,
    ⟨(some 58), .call 155 [(.t 57)] true, none, 1050112, 6, []⟩,
    ⟨(some 59), .bin .neq (.t 56) (.t 58), none, 1050368, 7, []⟩])
  (.cond (.t 59)
   (.seq (.reg [⟨(some 4), .mv (.k (.int .i64 (-1))), none, 1114112, 0, []⟩])
   (.ret))
   (.skip)))
  (.seq (.reg [⟨(some 60), .mv (.t 1), none, 1179648, 0, []⟩,
    ⟨(some 61), .bin .add (.t 60) (.k (.int .i64 1)), none, 1179904, 1, []⟩,
    ⟨(some 1), .mv (.t 61), none, 1180160, 2, []⟩])
  (.seq (.seq (.reg [⟨(some 62), .mv (.t 0), none, 1245184, 0, []⟩,
    ⟨(some 63), .mv (.t 5), none, 1245440, 1, []⟩,
    ⟨(some 64), .iaddr 10 (.t 62) (.t 63), none, 1245696, 2, []⟩,
    ⟨(some 65), .faddr 5 (.t 64), none, 1245952, 3, []⟩,
    ⟨(some 66), .load 1 false (.t 65), none, 1246208, 4, []⟩,
    ⟨(some 67), .mv (.t 1), none, 1246464, 5, []⟩,
    ⟨(some 68), .bin .rem (.t 67) (.k (.int .i64 3)), none, 1246720, 6, []⟩,
    ⟨(some 69), .bin .eql (.t 68) (.k (.int .i64 0)), none, 1246976, 7, []⟩,
    ⟨(some 70), .eqv true false [.b] (.t 66) (.t 69), none, 1247232, 8, []⟩])
  (.cond (.t 70)
   (.seq (.reg [⟨(some 4), .mv (.k (.int .i64 (-1))), none, 1310720, 0, []⟩])
   (.ret))
   (.skip)))
  (.seq (.reg [⟨(some 71), .mv (.t 1), none, 1376256, 0, []⟩,
    ⟨(some 72), .bin .add (.t 71) (.k (.int .i64 1)), none, 1376512, 1, []⟩,
    ⟨(some 1), .mv (.t 72), none, 1376768, 2, []⟩])
  (.seq (.seq (.reg [⟨(some 73), .mv (.t 0), none, 1441792, 0, []⟩,
    ⟨(some 74), .mv (.t 5), none, 1442048, 1, []⟩,
    ⟨(some 75), .iaddr 10 (.t 73) (.t 74), none, 1442304, 2, []⟩,
    ⟨(some 76), .faddr 6 (.t 75), none, 1442560, 3, []⟩,
    ⟨(some 77), .load 1 false (.t 76), none, 1442816, 4, []⟩,
    ⟨(some 78), .mv (.t 1), none, 1443072, 5, []⟩,
    ⟨(some 79), .bin .neq (.t 77) (.t 78), none, 1443328, 6, []⟩])
  (.cond (.t 79)
   (.seq (.reg [⟨(some 4), .mv (.k (.int .i64 (-1))), none, 1507328, 0, []⟩])
   (.ret))
   (.skip)))
  (.seq (.reg [⟨(some 80), .mv (.t 1), none, 1572864, 0, []⟩,
    ⟨(some 81), .bin .add (.t 80) (.k (.int .i64 1)), none, 1573120, 1, []⟩,
    ⟨(some 1), .mv (.t 81), none, 1573376, 2, []⟩])
  (.seq (.seq (.reg [⟨(some 82), .mv (.t 0), none, 1638400, 0, []⟩,
    ⟨(some 83), .mv (.t 5), none, 1638656, 1, []⟩,
    ⟨(some 84), .iaddr 10 (.t 82) (.t 83), none, 1638912, 2, []⟩,
    ⟨(some 85), .faddr 7 (.t 84), none, 1639168, 3, []⟩,
    ⟨(some 86), .load 1 false (.t 85), none, 1639424, 4, []⟩,
    ⟨(some 87), .mv (.t 1), none, 1639680, 5, []⟩,
    ⟨(some 88), .bin .neq (.t 86) (.t 87), none, 1639936, 6, []⟩])
  (.cond (.t 88)
   (.seq (.reg [⟨(some 4), .mv (.k (.int .i64 (-1))), none, 1703936, 0, []⟩])
   (.ret))
   (.skip)))
  (.seq (.reg [⟨(some 89), .mv (.t 1), none, 1769472, 0, []⟩,
    ⟨(some 90), .bin .add (.t 89) (.k (.int .i64 1)), none, 1769728, 1, []⟩,
    ⟨(some 1), .mv (.t 90), none, 1769984, 2, []⟩])
  (.seq (.seq (.reg [⟨(some 91), .mv (.t 0), none, 1835008, 0, []⟩,
    ⟨(some 92), .mv (.t 5), none, 1835264, 1, []⟩,
    ⟨(some 93), .iaddr 10 (.t 91) (.t 92), none, 1835520, 2, []⟩,
    ⟨(some 94), .faddr 8 (.t 93), none, 1835776, 3, []⟩,
    ⟨(some 95), .faddr 0 (.t 94), none, 1836032, 4, []⟩,
    ⟨(some 96), .load 1 false (.t 95), none, 1836288, 5, []⟩,
    ⟨(some 97), .mv (.t 1), none, 1836544, 6, []⟩,
    ⟨(some 98), .bin .neq (.t 96) (.t 97), none, 1836800, 7, []⟩])
  (.cond (.t 98)
   (.seq (.reg [⟨(some 4), .mv (.k (.int .i64 (-1))), none, 1900544, 0, []⟩])
   (.ret))
   (.skip)))
  (.seq (.reg [⟨(some 99), .mv (.t 1), none, 1966080, 0, []⟩,
    ⟨(some 100), .bin .add (.t 99) (.k (.int .i64 1)), none, 1966336, 1, []⟩,
    ⟨(some 1), .mv (.t 100), none, 1966592, 2, []⟩])
  (.seq (.seq (.reg [⟨(some 101), .mv (.t 0), none, 2031616, 0, []⟩,
    ⟨(some 102), .mv (.t 5), none, 2031872, 1, []⟩,
    ⟨(some 103), .iaddr 10 (.t 101) (.t 102), none, 2032128, 2, []⟩,
    ⟨(some 104), .faddr 8 (.t 103), none, 2032384, 3, []⟩,
    ⟨(some 105), .faddr 1 (.t 104), none, 2032640, 4, []⟩,
    ⟨(some 106), .load 1 false (.t 105), none, 2032896, 5, []⟩,
    ⟨(some 107), .mv (.t 1), none, 2033152, 6, []⟩,
    ⟨(some 108), .bin .neq (.t 106) (.t 107), none, 2033408, 7, []⟩])
  (.cond (.t 108)
   (.seq (.reg [⟨(some 4), .mv (.k (.int .i64 (-1))), none, 2097152, 0, []⟩])
   (.ret))
   (.skip)))
  (.reg [⟨(some 109), .mv (.t 1), none, 2162688, 0, []⟩,
    ⟨(some 110), .bin .add (.t 109) (.k (.int .i64 1)), none, 2162944, 1, []⟩,
    ⟨(some 1), .mv (.t 110), none, 2163200, 2, []⟩])))))))))))))))))))))
  (.reg [⟨(some 10), .mv (.t 5), none, 196608, 0, []⟩,
    ⟨(some 11), .bin .add (.t 10) (.k (.int .i64 1)), none, 196864, 1, []⟩,
    ⟨(some 5), .mv (.t 11), none, 197120, 2, []⟩]))))))
 (.seq (.reg [⟨(some 111), .mv (.t 1), none, 2228224, 0, []⟩,
   ⟨(some 4), .mv (.t 111), none, 2228480, 1, []⟩])
 (.ret)))⟩
def F81 : F := ⟨2, 71, [.t 4],
 .seq (.reg [⟨(some 4), .mv (.k (.int .i64 0)), none, 0, 0, []⟩])
 (.seq (.seq (.reg [⟨(some 5), .mv (.k (.int .i64 0)), none, 65536, 0, []⟩])
 (.block 0 (.loop [0, 1, 5] []
  (.seq (.seq (.reg [⟨(some 6), .mv (.t 5), none, 131072, 0, []⟩,
    ⟨(some 7), .mv (.t 0), none, 131328, 1, []⟩,
    ⟨(some 8), .len false (.t 7), none, 131584, 2, []⟩,
    ⟨(some 9), .bin .lss (.t 6) (.t 8), none, 131840, 3, []⟩])
  (.cond (.t 9)
   (.skip)
   (.exit 0)))
  (.seq (.block 1 (.seq (.seq (.reg [⟨(some 12), .mv (.t 0), none, 262144, 0, []⟩,
    ⟨(some 13), .mv (.t 5), none, 262400, 1, []⟩,
    ⟨(some 14), .iaddr 6 (.t 12) (.t 13), none, 262656, 2, []⟩,
    ⟨(some 15), .faddr 0 (.t 14), none, 262912, 3, []⟩,
    ⟨(some 16), .load 1 false (.t 15), none, 263168, 4, []⟩,
    ⟨(some 17), .mv (.t 1), none, 263424, 5, []⟩,
    ⟨(some 18), .call 155 [(.t 17)] true, none, 263680, 6, []⟩,
    ⟨(some 19), .bin .neq (.t 16) (.t 18), none, 263936, 7, []⟩])
  (.cond (.t 19)
   (.seq (.reg [⟨(some 4), .mv (.k (.int .i64 (-1))), none, 327680, 0, []⟩])
   (.ret))
   (.skip)))
  (.seq (.reg [⟨(some 20), .mv (.t 1), none, 393216, 0, []⟩,
    ⟨(some 21), .bin .add (.t 20) (.k (.int .i64 1)), none, 393472, 1, []⟩,
    ⟨(some 1), .mv (.t 21), none, 393728, 2, []⟩])
  (.seq (.seq (.reg [⟨(some 22), .mv (.t 0), none, 458752, 0, []⟩,
    ⟨(some 23), .mv (.t 5), none, 459008, 1, []⟩,
    ⟨(some 24), .iaddr 6 (.t 22) (.t 23), none, 459264, 2, []⟩,
    ⟨(some 25), .faddr 1 (.t 24), none, 459520, 3, []⟩,
    ⟨(some 26), .faddr 0 (.t 25), none, 459776, 4, []⟩,
    ⟨(some 27), .load 1 false (.t 26), none, 460032, 5, []⟩,
    ⟨(some 28), .mv (.t 1), none, 460288, 6, []⟩,
    ⟨(some 29), .bin .neq (.t 27) (.t 28), none, 460544, 7, []⟩])
  (.cond (.t 29)
   (.seq (.reg [⟨(some 4), .mv (.k (.int .i64 (-1))), none, 524288, 0, []⟩])
   (.ret))
   (.skip)))
  (.seq (.reg [⟨(some 30), .mv (.t 1), none, 589824, 0, []⟩,
    ⟨(some 31), .bin .add (.t 30) (.k (.int .i64 1)), none, 590080, 1, []⟩,
    ⟨(some 1), .mv (.t 31), none, 590336, 2, []⟩])
  (.seq (.seq (.reg [⟨(some 32), .mv (.t 0), none, 655360, 0, []⟩,
    ⟨(some 33), .mv (.t 5), none, 655616, 1, []⟩,
    ⟨(some 34), .iaddr 6 (.t 32) (.t 33), none, 655872, 2, []⟩,
    ⟨(some 35), .faddr 1 (.t 34), none, 656128, 3, []⟩,
    ⟨(some 36), .faddr 1 (.t 35), none, 656384, 4, []⟩,
    ⟨(some 37), .load 1 false (.t 36), none, 656640, 5, []⟩,
    ⟨(some 38), .mv (.t 1), none, 656896, 6, []⟩,
    ⟨(some 39), .bin .neq (.t 37) (.t 38), none, 657152, 7, []⟩])
  (.cond (.t 39)
   (.seq (.reg [⟨(some 4), .mv (.k (.int .i64 (-1))), none, 720896, 0, []⟩])
   (.ret))
   (.skip)))
  (.seq (.reg [⟨(some 40), .mv (.t 1), none, 786432, 0, []⟩,
    ⟨(some 41), .bin .add (.t 40) (.k (.int .i64 1)), none, 786688, 1, []⟩,
    ⟨(some 1), .mv (.t 41), none, 786944, 2, []⟩])
  (.seq (.seq (.reg [⟨(some 42), .mv (.t 0), none, 851968, 0, []⟩,
    ⟨(some 43), .mv (.t 5), none, 852224, 1, []⟩,
    ⟨(some 44), .iaddr 6 (.t 42) (.t 43), none, 852480, 2, []⟩,
    ⟨(some 45), .faddr 3 (.t 44), none, 852736, 3, []⟩,
    ⟨(some 46), .load 1 false (.t 45), none, 852992, 4, []⟩,
    ⟨(some 47), .mv (.t 1), none, 853248, 5, []⟩,
    ⟨(some 48), .bin .neq (.t 46) (.t 47), none, 853504, 6, []⟩])
  (.cond (.t 48)
   (.seq (.reg [⟨(some 4), .mv (.k (.int .i64 (-1))), none, 917504, 0, []⟩])
   (.ret))
   (.skip)))
  (.seq (.reg [⟨(some 49), .mv (.t 1), none, 983040, 0, []⟩,
    ⟨(some 50), .bin .add (.t 49) (.k (.int .i64 1)), none, 983296, 1, []⟩,
    ⟨(some 1), .mv (.t 50), none, 983552, 2, []⟩])
  (.seq (.seq (.reg [⟨(some 51), .mv (.t 0), none, 1048576, 0, []⟩,
    ⟨(some 52), .mv (.t 5), none, 1048832, 1, []⟩,
    ⟨(some 53), .iaddr 6 (.t 51) (.t 52), none, 1049088, 2, []⟩,
    ⟨(some 54), .faddr 4 (.t 53), none, 1049344, 3, []⟩,
    ⟨(some 55), .load 1 false (.t 54), none, 1049600, 4, []⟩,
    ⟨(some 56), .mv (.t 1), none, 1049856, 5, []⟩,
    ⟨(some 57), .bin .neq (.t 55) (.t 56), none, 1050112, 6, []⟩])
  (.cond (.t 57)
   (.seq (.reg [⟨(some 4), .mv (.k (.int .i64 (-1))), none, 1114112, 0, []⟩])
   (.ret))
   (.skip)))
  (.seq (.reg [⟨(some 58), .mv (.t 1), none, 1179648, 0, []⟩,
    ⟨(some 59), .bin .add (.t 58) (.k (.int .i64 1)), none, 1179904, 1, []⟩,
    ⟨(some 1), .mv (.t 59), none, 1180160, 2, []⟩])
  (.seq (.seq (.reg [⟨(some 60), .mv (.t 0), none, 1245184, 0, []⟩,
    ⟨(some 61), .mv (.t 5), none, 1245440, 1, []⟩,
    ⟨(some 62), .iaddr 6 (.t 60) (.t 61), none, 1245696, 2, []⟩,
    ⟨(some 63), .faddr 5 (.t 62), none, 1245952, 3, []⟩,
    ⟨(some 64), .load 1 false (.t 63), none, 1246208, 4, []⟩,
    ⟨(some 65), .mv (.t 1), none, 1246464, 5, []⟩,
    ⟨(some 66), .call 155 [(.t 65)] true, none, 1246720, 6, []⟩,
    ⟨(some 67), .bin .neq (.t 64) (.t 66), none, 1246976, 7, []⟩])
  (.cond (.t 67)
   (.seq (.reg [⟨(some 4), .mv (.k (.int .i64 (-1))), none, 1310720, 0, []⟩])
   (.ret))
   (.skip)))
  (.reg [⟨(some 68), .mv (.t 1), none, 1376256, 0, []⟩,
    ⟨(some 69), .bin .add (.t 68) (.k (.int .i64 1)), none, 1376512, 1, []⟩,
    ⟨(some 1), .mv (.t 69), none, 1376768, 2, []⟩])))))))))))))
  (.reg [⟨(some 10), .mv (.t 5), none, 196608, 0, []⟩,
    ⟨(some 11), .bin .add (.t 10) (.k (.int .i64 1)), none, 196864, 1, []⟩,
    ⟨(some 5), .mv (.t 11), none, 197120, 2, []⟩]))))))
 (.seq (.reg [⟨(some 70), .mv (.t 1), none, 1441792, 0, []⟩,
   ⟨(some 4), .mv (.t 70), none, 1442048, 1, []⟩])
 (.ret)))⟩
def F83 : F := ⟨2, 24, [.t 4],
 .seq (.reg [⟨(some 2), .box (.t 0), none, 0, 0, []⟩,
   ⟨(some 3), .box (.t 1), none, 256, 1, []⟩,
   ⟨(some 4), .mv (.k (.bool false)), none, 512, 2, []⟩])
 (.seq (.reg [⟨(some 5), .faddr 0 (.t 2), none, 65536, 0, []⟩,
   ⟨(some 6), .load 1 false (.t 5), none, 65792, 1, []⟩,
   ⟨(some 7), .faddr 0 (.t 3), none, 66048, 2, []⟩,
   ⟨(some 8), .load 1 false (.t 7), none, 66304, 3, []⟩,
   ⟨(some 9), .bin .lss (.t 6) (.t 8), none, 66560, 4, []⟩,
   ⟨(some 10), .mv (.t 9), none, 66816, 5, []⟩,
   ⟨(some 11), .faddr 0 (.t 2), (some (some 10, false)), 67072, 6, []⟩,
   ⟨(some 12), .load 1 false (.t 11), (some (some 10, false)), 67328, 7, []⟩,
   ⟨(some 13), .faddr 0 (.t 3), (some (some 10, false)), 67584, 8, []⟩,
   ⟨(some 14), .load 1 false (.t 13), (some (some 10, false)), 67840, 9, []⟩,
   ⟨(some 15), .bin .eql (.t 12) (.t 14), (some (some 10, false)), 68096, 10, []⟩,
   ⟨(some 16), .mv (.t 15), (some (some 10, false)), 68352, 11, []⟩,
   ⟨(some 17), .faddr 1 (.t 2), (some (some 16, true)), 68608, 12, []⟩,
   ⟨(some 18), .load 1 false (.t 17), (some (some 16, true)), 68864, 13, []⟩,
   ⟨(some 19), .faddr 1 (.t 3), (some (some 16, true)), 69120, 14, []⟩,
   ⟨(some 20), .load 1 false (.t 19), (some (some 16, true)), 69376, 15, []⟩,
   ⟨(some 21), .bin .lss (.t 18) (.t 20), (some (some 16, true)), 69632, 16, []⟩,
   ⟨(some 22), .pick (.t 16) (.t 21) (.k (.bool false)), (some (some 10, false)), 69888, 17, []⟩,
   ⟨(some 23), .pick (.t 10) (.k (.bool true)) (.t 22), none, 70144, 18, []⟩,
   ⟨(some 4), .mv (.t 23), none, 70400, 19, []⟩])
 (.ret))⟩
def F86 : F := ⟨1, 27, [.t 2],
 .seq (.reg [⟨(some 1), .box (.t 0), none, 0, 0, []⟩,
   ⟨(some 2), .mv (.k (.bool false)), none, 256, 1, []⟩])
 (.seq (.reg [⟨(some 3), .faddr 0 (.t 1), none, 65536, 0, []⟩,
   ⟨(some 4), .load 1 false (.t 3), none, 65792, 1, []⟩,
   ⟨(some 5), .call 157 [(.t 4)] true, none, 66048, 2, []⟩,
   ⟨(some 6), .mv (.t 5), none, 66304, 3, []⟩,
   ⟨(some 7), .faddr 1 (.t 1), (some (some 6, true)), 66560, 4, []⟩,
   ⟨(some 8), .load 2 true (.t 7), (some (some 6, true)), 66816, 5, []⟩,
   ⟨(some 9), .call 158 [(.t 8)] true, (some (some 6, true)), 67072, 6, []⟩,
   ⟨(some 10), .pick (.t 6) (.t 9) (.k (.bool false)), none, 67328, 7, []⟩,
   ⟨(some 11), .mv (.t 10), none, 67584, 8, []⟩,
   ⟨(some 12), .faddr 3 (.t 1), (some (some 11, true)), 67840, 9, []⟩,
   ⟨(some 13), .load 1 false (.t 12), (some (some 11, true)), 68096, 10, []⟩,
   ⟨(some 14), .call 97 [(.t 13), (.k (.int .i64 0)), (.k (.int .i64 6))] true, (some (some 11, true)), 68352, 11, []⟩,
   ⟨(some 15), .pick (.t 11) (.t 14) (.k (.bool false)), none, 68608, 12, []⟩,
   ⟨(some 16), .mv (.t 15), none, 68864, 13, []⟩,
   ⟨(some 17), .faddr 4 (.t 1), (some (some 16, true)), 69120, 14, []⟩,
   ⟨(some 18), .load 1 false (.t 17), (some (some 16, true)), 69376, 15, []⟩,
   ⟨(some 19), .call 159 [(.t 18)] true, (some (some 16, true)), 69632, 16, []⟩,
   ⟨(some 20), .pick (.t 16) (.t 19) (.k (.bool false)), none, 69888, 17, []⟩,
   ⟨(some 21), .mv (.t 20), none, 70144, 18, []⟩,
   ⟨(some 22), .faddr 5 (.t 1), (some (some 21, true)), 70400, 19, []⟩,
   ⟨(some 23), .load 1 false (.t 22), (some (some 21, true)), 70656, 20, []⟩,
   ⟨(some 24), .len true (.t 23), (some (some 21, true)), 70912, 21, []⟩,
   ⟨(some 25), .bin .leq (.t 24) (.k (.int .i64 64)), (some (some 21, true)), 71168, 22, []⟩,
   ⟨(some 26), .pick (.t 21) (.t 25) (.k (.bool false)), none, 71424, 23, []⟩,
   ⟨(some 2), .mv (.t 26), none, 71680, 24, []⟩])
 (.ret))⟩
def F88 : F := ⟨1, 33, [.t 2],
 .seq (.reg [⟨(some 1), .box (.t 0), none, 0, 0, []⟩,
   ⟨(some 2), .mv (.k (.bool false)), none, 256, 1, []⟩])
 (.seq (.reg [⟨(some 3), .faddr 0 (.t 1), none, 65536, 0, []⟩,
   ⟨(some 4), .load 1 false (.t 3), none, 65792, 1, []⟩,
   ⟨(some 5), .call 161 [(.t 4)] true, none, 66048, 2, []⟩,
   ⟨(some 6), .mv (.t 5), none, 66304, 3, []⟩,
   ⟨(some 7), .faddr 1 (.t 1), (some (some 6, true)), 66560, 4, []⟩,
   ⟨(some 8), .load 2 true (.t 7), (some (some 6, true)), 66816, 5, []⟩,
   ⟨(some 9), .call 143 [(.t 8)] true, (some (some 6, true)), 67072, 6, []⟩,
   ⟨(some 10), .pick (.t 6) (.t 9) (.k (.bool false)), none, 67328, 7, []⟩,
   ⟨(some 11), .mv (.t 10), none, 67584, 8, []⟩,
   ⟨(some 12), .faddr 1 (.t 1), (some (some 11, true)), 67840, 9, []⟩,
   ⟨(some 13), .load 2 true (.t 12), (some (some 11, true)), 68096, 10, []⟩,
   ⟨(some 14), .build [(.int .i64 0), (.int .i64 0)] [], (some (some 11, true)), 68352, 11, []⟩,
   ⟨(some 15), .eqv true true [.i, .i] (.t 13) (.t 14), (some (some 11, true)), 68608, 12, []⟩,
   ⟨(some 16), .pick (.t 11) (.t 15) (.k (.bool false)), none, 68864, 13, []⟩,
   ⟨(some 17), .mv (.t 16), none, 69120, 14, []⟩,
   ⟨(some 18), .faddr 3 (.t 1), (some (some 17, true)), 69376, 15, []⟩,
   ⟨(some 19), .load 1 false (.t 18), (some (some 17, true)), 69632, 16, []⟩,
   ⟨(some 20), .call 142 [(.t 19), (.k (.int .i64 0)), (.k (.int .i64 6))] true, (some (some 17, true)), 69888, 17, []⟩,
   ⟨(some 21), .pick (.t 17) (.t 20) (.k (.bool false)), none, 70144, 18, []⟩,
   ⟨(some 22), .mv (.t 21), none, 70400, 19, []⟩,
   ⟨(some 23), .faddr 4 (.t 1), (some (some 22, true)), 70656, 20, []⟩,
   ⟨(some 24), .load 1 false (.t 23), (some (some 22, true)), 70912, 21, []⟩,
   ⟨(some 25), .call 142 [(.t 24), (.k (.int .i64 0)), (.k (.int .i64 4294967295))] true, (some (some 22, true)), 71168, 22, []⟩,
   ⟨(some 26), .pick (.t 22) (.t 25) (.k (.bool false)), none, 71424, 23, []⟩,
   ⟨(some 27), .mv (.t 26), none, 71680, 24, []⟩,
   ⟨(some 28), .faddr 5 (.t 1), (some (some 27, true)), 71936, 25, []⟩,
   ⟨(some 29), .load 1 false (.t 28), (some (some 27, true)), 72192, 26, []⟩,
   ⟨(some 30), .len true (.t 29), (some (some 27, true)), 72448, 27, []⟩,
   ⟨(some 31), .bin .leq (.t 30) (.k (.int .i64 64)), (some (some 27, true)), 72704, 28, []⟩,
   ⟨(some 32), .pick (.t 27) (.t 31) (.k (.bool false)), none, 72960, 29, []⟩,
   ⟨(some 2), .mv (.t 32), none, 73216, 30, []⟩])
 (.ret))⟩
def F96 : F := ⟨1, 11, [.t 2],
 .seq (.reg [⟨(some 1), .box (.t 0), none, 0, 0, []⟩,
   ⟨(some 2), .mv (.k (.bool false)), none, 256, 1, []⟩])
 (.seq (.reg [⟨(some 3), .faddr 0 (.t 1), none, 65536, 0, []⟩,
   ⟨(some 4), .load 1 false (.t 3), none, 65792, 1, []⟩,
   ⟨(some 5), .call 97 [(.t 4), (.k (.int .i64 1)), (.k (.int .i64 4))] true, none, 66048, 2, []⟩,
   ⟨(some 6), .mv (.t 5), none, 66304, 3, []⟩,
   ⟨(some 7), .faddr 1 (.t 1), (some (some 6, true)), 66560, 4, []⟩,
   ⟨(some 8), .load 1 false (.t 7), (some (some 6, true)), 66816, 5, []⟩,
   ⟨(some 9), .call 97 [(.t 8), (.k (.int .i64 0)), (.k (.int .i64 15))] true, (some (some 6, true)), 67072, 6, []⟩,
   ⟨(some 10), .pick (.t 6) (.t 9) (.k (.bool false)), none, 67328, 7, []⟩,
   ⟨(some 2), .mv (.t 10), none, 67584, 8, []⟩])
 (.ret))⟩
def F97 : F := ⟨3, 15, [.t 6],
 .seq (.reg [⟨(some 6), .mv (.k (.bool false)), none, 0, 0, []⟩])
 (.seq (.reg [⟨(some 7), .mv (.t 0), none, 65536, 0, []⟩,
   ⟨(some 8), .mv (.t 1), none, 65792, 1, []⟩,
   ⟨(some 9), .bin .geq (.t 7) (.t 8), none, 66048, 2, []⟩,
   ⟨(some 10), .mv (.t 9), none, 66304, 3, []⟩,
   ⟨(some 11), .mv (.t 0), (some (some 10, true)), 66560, 4, []⟩,
   ⟨(some 12), .mv (.t 2), (some (some 10, true)), 66816, 5, []⟩,
   ⟨(some 13), .bin .leq (.t 11) (.t 12), (some (some 10, true)), 67072, 6, []⟩,
   ⟨(some 14), .pick (.t 10) (.t 13) (.k (.bool false)), none, 67328, 7, []⟩,
   ⟨(some 6), .mv (.t 14), none, 67584, 8, []⟩])
 (.ret))⟩
def F98 : F := ⟨1, 15, [.t 2],
 .seq (.reg [⟨(some 1), .box (.t 0), none, 0, 0, []⟩,
   ⟨(some 2), .mv (.k (.bool false)), none, 256, 1, []⟩])
 (.seq (.reg [⟨(some 3), .load 2 true (.t 1), none, 65536, 0, []⟩,
   ⟨(some 4), .call 172 [(.t 3)] true, none, 65792, 1, []⟩,
   ⟨(some 5), .mv (.t 4), none, 66048, 2, []⟩,
   ⟨(some 6), .faddr 0 (.t 1), (some (some 5, false)), 66304, 3, []⟩,
   ⟨(some 7), .load 1 false (.t 6), (some (some 5, false)), 66560, 4, []⟩,
   ⟨(some 8), .call 97 [(.t 7), (.k (.int .i64 1)), (.k (.int .i64 60))] true, (some (some 5, false)), 66816, 5, []⟩,
   ⟨(some 9), .mv (.t 8), (some (some 5, false)), 67072, 6, []⟩,
   ⟨(some 10), .faddr 1 (.t 1), (some (some 9, true)), 67328, 7, []⟩,
   ⟨(some 11), .load 1 false (.t 10), (some (some 9, true)), 67584, 8, []⟩,
   ⟨(some 12), .call 97 [(.t 11), (.k (.int .i64 1)), (.k (.int .i64 1000))] true, (some (some 9, true)), 67840, 9, []⟩,
   ⟨(some 13), .pick (.t 9) (.t 12) (.k (.bool false)), (some (some 5, false)), 68096, 10, []⟩,
   ⟨(some 14), .pick (.t 5) (.k (.bool true)) (.t 13), none, 68352, 11, []⟩,
   ⟨(some 2), .mv (.t 14), none, 68608, 12, []⟩])
 (.ret))⟩
def F99 : F := ⟨2, 67, [.t 4],
 .seq (.reg [⟨(some 3), .box (.t 1), none, 0, 0, []⟩,
   ⟨(some 4), .mv (.k (.bool false)), none, 256, 1, []⟩])
 (.seq (.seq (.reg [⟨(some 5), .mv (.k (.int .i64 0)), none, 65536, 0, []⟩])
 (.block 0 (.loop [0, 3, 5] [0, 1, 2, 3, 4, 5]
  (.seq (.seq (.reg [⟨(some 7), .mv (.t 5), none, 131072, 0, []⟩,
    ⟨(some 8), .mv (.t 0), none, 131328, 1, []⟩,
    ⟨(some 9), .len false (.t 8), none, 131584, 2, []⟩,
    ⟨(some 10), .bin .lss (.t 7) (.t 9), none, 131840, 3, []⟩,
    ⟨(some 11), .mv (.t 10), none, 132096, 4, []⟩,
    ⟨(some 12), .mv (.t 5), (some (some 11, true)), 132352, 5, []⟩,
    ⟨(some 13), .bin .leq (.t 12) (.k (.int .i64 16)), (some (some 11, true)), 132608, 6, []⟩,
    ⟨(some 14), .pick (.t 11) (.t 13) (.k (.bool false)), none, 132864, 7, []⟩])
  (.cond (.t 14)
   (.skip)
   (.exit 0)))
  (.seq (.block 1 (.seq (.reg [⟨(some 17), .mv (.t 0), none, 262144, 0, []⟩,
    ⟨(some 18), .mv (.t 5), none, 262400, 1, []⟩,
    ⟨(some 19), .iaddr 5 (.t 17) (.t 18), none, 262656, 2, []⟩,
    ⟨(some 20), .load 5 true (.t 19), none, 262912, 3, []⟩,
    ⟨(some 6), .alloc [(.str ByteArray.empty), (.int .i64 0), (.int .i64 0), (.int .i64 0), (.int .i64 0)], none, 263168, 4, []⟩,
    ⟨none, .store 5 (.t 6) (.t 20), none, 263424, 5, []⟩])
  (.seq (.reg [⟨(some 21), .faddr 0 (.t 6), none, 327680, 0, []⟩,
    ⟨(some 22), .load 1 false (.t 21), none, 327936, 1, []⟩,
    ⟨(some 23), .call 157 [(.t 22)] true, none, 328192, 2, []⟩,
    ⟨(some 24), .not (.t 23), none, 328448, 3, []⟩,
    ⟨(some 25), .mv (.t 24), none, 328704, 4, []⟩,
    ⟨(some 26), .mv (.t 5), (some (some 25, false)), 328960, 5, []⟩,
    ⟨(some 27), .bin .gtr (.t 26) (.k (.int .i64 0)), (some (some 25, false)), 329216, 6, []⟩,
    ⟨(some 28), .mv (.t 27), (some (some 25, false)), 329472, 7, []⟩,
    ⟨(some 29), .mv (.t 0), (some (some 28, true)), 329728, 8, []⟩,
    ⟨(some 30), .mv (.t 5), (some (some 28, true)), 329984, 9, []⟩,
    ⟨(some 31), .bin .sub (.t 30) (.k (.int .i64 1)), (some (some 28, true)), 330240, 10, []⟩,
    ⟨(some 32), .iaddr 5 (.t 29) (.t 31), (some (some 28, true)), 330496, 11, []⟩,
    ⟨(some 33), .faddr 0 (.t 32), (some (some 28, true)), 330752, 12, []⟩,
    ⟨(some 34), .load 1 false (.t 33), (some (some 28, true)), 331008, 13, []⟩,
    ⟨(some 35), .faddr 0 (.t 6), (some (some 28, true)), 331264, 14, []⟩,
    ⟨(some 36), .load 1 false (.t 35), (some (some 28, true)), 331520, 15, []⟩,
    ⟨(some 37), .bin .geq (.t 34) (.t 36), (some (some 28, true)), 331776, 16, []⟩,
    ⟨(some 38), .pick (.t 28) (.t 37) (.k (.bool false)), (some (some 25, false)), 332032, 17, []⟩,
    ⟨(some 39), .pick (.t 25) (.k (.bool true)) (.t 38), none, 332288, 18, []⟩,
    ⟨(some 40), .mv (.t 39), none, 332544, 19, []⟩,
    ⟨(some 41), .faddr 1 (.t 6), (some (some 40, false)), 332800, 20, []⟩,
    ⟨(some 42), .load 2 true (.t 41), (some (some 40, false)), 333056, 21, []⟩,
    ⟨(some 43), .call 158 [(.t 42)] true, (some (some 40, false)), 333312, 22, []⟩,
    ⟨(some 44), .not (.t 43), (some (some 40, false)), 333568, 23, []⟩,
    ⟨(some 45), .pick (.t 40) (.k (.bool true)) (.t 44), none, 333824, 24, []⟩,
    ⟨(some 46), .mv (.t 45), none, 334080, 25, []⟩,
    ⟨(some 47), .load 2 true (.t 3), (some (some 46, false)), 334336, 26, []⟩,
    ⟨(some 48), .faddr 1 (.t 6), (some (some 46, false)), 334592, 27, []⟩,
    ⟨(some 49), .load 2 true (.t 48), (some (some 46, false)), 334848, 28, []⟩,
    ⟨(some 50), .call 83 [(.t 47), (.t 49)] true, (some (some 46, false)), 335104, 29, []⟩,
    ⟨(some 51), .pick (.t 46) (.k (.bool true)) (.t 50), none, 335360, 30, []⟩,
    ⟨(some 52), .mv (.t 51), none, 335616, 31, []⟩,
    ⟨(some 53), .faddr 3 (.t 6), (some (some 52, false)), 335872, 32, []⟩,
    ⟨(some 54), .load 1 false (.t 53), (some (some 52, false)), 336128, 33, []⟩,
    ⟨(some 55), .call 97 [(.t 54), (.k (.int .i64 0)), (.k (.int .i64 64))] true, (some (some 52, false)), 336384, 34, []⟩,
    ⟨(some 56), .not (.t 55), (some (some 52, false)), 336640, 35, []⟩,
    ⟨(some 57), .pick (.t 52) (.k (.bool true)) (.t 56), none, 336896, 36, []⟩,
    ⟨(some 58), .mv (.t 57), none, 337152, 37, []⟩,
    ⟨(some 59), .faddr 4 (.t 6), (some (some 58, false)), 337408, 38, []⟩,
    ⟨(some 60), .load 1 false (.t 59), (some (some 58, false)), 337664, 39, []⟩,
    ⟨(some 61), .call 159 [(.t 60)] true, (some (some 58, false)), 337920, 40, []⟩,
    ⟨(some 62), .not (.t 61), (some (some 58, false)), 338176, 41, []⟩,
    ⟨(some 63), .pick (.t 58) (.k (.bool true)) (.t 62), none, 338432, 42, []⟩])
  (.cond (.t 63)
   (.seq (.reg [⟨(some 4), .mv (.k (.bool false)), none, 393216, 0, []⟩])
   (.ret))
   (.skip)))))
  (.reg [⟨(some 15), .mv (.t 5), none, 196608, 0, []⟩,
    ⟨(some 16), .bin .add (.t 15) (.k (.int .i64 1)), none, 196864, 1, []⟩,
    ⟨(some 5), .mv (.t 16), none, 197120, 2, []⟩]))))))
 (.seq (.reg [⟨(some 64), .mv (.t 0), none, 458752, 0, []⟩,
   ⟨(some 65), .len false (.t 64), none, 459008, 1, []⟩,
   ⟨(some 66), .bin .leq (.t 65) (.k (.int .i64 16)), none, 459264, 2, []⟩,
   ⟨(some 4), .mv (.t 66), none, 459520, 3, []⟩])
 (.ret)))⟩
def F100 : F := ⟨2, 61, [.t 4],
 .seq (.reg [⟨(some 3), .box (.t 1), none, 0, 0, []⟩,
   ⟨(some 4), .mv (.k (.bool false)), none, 256, 1, []⟩])
 (.seq (.seq (.reg [⟨(some 5), .mv (.k (.int .i64 0)), none, 65536, 0, []⟩])
 (.block 0 (.loop [0, 3, 5] [0, 1, 2, 3, 4, 5]
  (.seq (.seq (.reg [⟨(some 7), .mv (.t 5), none, 131072, 0, []⟩,
    ⟨(some 8), .mv (.t 0), none, 131328, 1, []⟩,
    ⟨(some 9), .len false (.t 8), none, 131584, 2, []⟩,
    ⟨(some 10), .bin .lss (.t 7) (.t 9), none, 131840, 3, []⟩,
    ⟨(some 11), .mv (.t 10), none, 132096, 4, []⟩,
    ⟨(some 12), .mv (.t 5), (some (some 11, true)), 132352, 5, []⟩,
    ⟨(some 13), .bin .leq (.t 12) (.k (.int .i64 6)), (some (some 11, true)), 132608, 6, []⟩,
    ⟨(some 14), .pick (.t 11) (.t 13) (.k (.bool false)), none, 132864, 7, []⟩])
  (.cond (.t 14)
   (.skip)
   (.exit 0)))
  (.seq (.block 1 (.seq (.reg [⟨(some 17), .mv (.t 0), none, 262144, 0, []⟩,
    ⟨(some 18), .mv (.t 5), none, 262400, 1, []⟩,
    ⟨(some 19), .iaddr 4 (.t 17) (.t 18), none, 262656, 2, []⟩,
    ⟨(some 20), .load 4 true (.t 19), none, 262912, 3, []⟩,
    ⟨(some 6), .alloc [(.int .i64 0), (.int .i64 0), (.int .i64 0), (.int .i64 0)], none, 263168, 4, []⟩,
    ⟨none, .store 4 (.t 6) (.t 20), none, 263424, 5, []⟩])
  (.seq (.reg [⟨(some 21), .faddr 0 (.t 6), none, 327680, 0, []⟩,
    ⟨(some 22), .load 1 false (.t 21), none, 327936, 1, []⟩,
    ⟨(some 23), .call 173 [(.t 22)] true, none, 328192, 2, []⟩,
    ⟨(some 24), .not (.t 23), none, 328448, 3, []⟩,
    ⟨(some 25), .mv (.t 24), none, 328704, 4, []⟩,
    ⟨(some 26), .mv (.t 5), (some (some 25, false)), 328960, 5, []⟩,
    ⟨(some 27), .bin .gtr (.t 26) (.k (.int .i64 0)), (some (some 25, false)), 329216, 6, []⟩,
    ⟨(some 28), .mv (.t 27), (some (some 25, false)), 329472, 7, []⟩,
    ⟨(some 29), .mv (.t 0), (some (some 28, true)), 329728, 8, []⟩,
    ⟨(some 30), .mv (.t 5), (some (some 28, true)), 329984, 9, []⟩,
    ⟨(some 31), .bin .sub (.t 30) (.k (.int .i64 1)), (some (some 28, true)), 330240, 10, []⟩,
    ⟨(some 32), .iaddr 4 (.t 29) (.t 31), (some (some 28, true)), 330496, 11, []⟩,
    ⟨(some 33), .faddr 0 (.t 32), (some (some 28, true)), 330752, 12, []⟩,
    ⟨(some 34), .load 1 false (.t 33), (some (some 28, true)), 331008, 13, []⟩,
    ⟨(some 35), .faddr 0 (.t 6), (some (some 28, true)), 331264, 14, []⟩,
    ⟨(some 36), .load 1 false (.t 35), (some (some 28, true)), 331520, 15, []⟩,
    ⟨(some 37), .bin .geq (.t 34) (.t 36), (some (some 28, true)), 331776, 16, []⟩,
    ⟨(some 38), .pick (.t 28) (.t 37) (.k (.bool false)), (some (some 25, false)), 332032, 17, []⟩,
    ⟨(some 39), .pick (.t 25) (.k (.bool true)) (.t 38), none, 332288, 18, []⟩,
    ⟨(some 40), .mv (.t 39), none, 332544, 19, []⟩,
    ⟨(some 41), .faddr 1 (.t 6), (some (some 40, false)), 332800, 20, []⟩,
    ⟨(some 42), .load 1 false (.t 41), (some (some 40, false)), 333056, 21, []⟩,
    ⟨(some 43), .call 97 [(.t 42), (.k (.int .i64 1)), (.k (.int .i64 1000))] true, (some (some 40, false)), 333312, 22, []⟩,
    ⟨(some 44), .not (.t 43), (some (some 40, false)), 333568, 23, []⟩,
    ⟨(some 45), .pick (.t 40) (.k (.bool true)) (.t 44), none, 333824, 24, []⟩,
    ⟨(some 46), .mv (.t 45), none, 334080, 25, []⟩,
    ⟨(some 47), .faddr 2 (.t 6), (some (some 46, false)), 334336, 26, []⟩,
    ⟨(some 48), .load 2 true (.t 47), (some (some 46, false)), 334592, 27, []⟩,
    ⟨(some 49), .call 158 [(.t 48)] true, (some (some 46, false)), 334848, 28, []⟩,
    ⟨(some 50), .not (.t 49), (some (some 46, false)), 335104, 29, []⟩,
    ⟨(some 51), .pick (.t 46) (.k (.bool true)) (.t 50), none, 335360, 30, []⟩,
    ⟨(some 52), .mv (.t 51), none, 335616, 31, []⟩,
    ⟨(some 53), .load 2 true (.t 3), (some (some 52, false)), 335872, 32, []⟩,
    ⟨(some 54), .faddr 2 (.t 6), (some (some 52, false)), 336128, 33, []⟩,
    ⟨(some 55), .load 2 true (.t 54), (some (some 52, false)), 336384, 34, []⟩,
    ⟨(some 56), .call 83 [(.t 53), (.t 55)] true, (some (some 52, false)), 336640, 35, []⟩,
    ⟨(some 57), .pick (.t 52) (.k (.bool true)) (.t 56), none, 336896, 36, []⟩])
  (.cond (.t 57)
   (.seq (.reg [⟨(some 4), .mv (.k (.bool false)), none, 393216, 0, []⟩])
   (.ret))
   (.skip)))))
  (.reg [⟨(some 15), .mv (.t 5), none, 196608, 0, []⟩,
    ⟨(some 16), .bin .add (.t 15) (.k (.int .i64 1)), none, 196864, 1, []⟩,
    ⟨(some 5), .mv (.t 16), none, 197120, 2, []⟩]))))))
 (.seq (.reg [⟨(some 58), .mv (.t 0), none, 458752, 0, []⟩,
   ⟨(some 59), .len false (.t 58), none, 459008, 1, []⟩,
   ⟨(some 60), .bin .leq (.t 59) (.k (.int .i64 6)), none, 459264, 2, []⟩,
   ⟨(some 4), .mv (.t 60), none, 459520, 3, []⟩])
 (.ret)))⟩
def F101 : F := ⟨1, 48, [.t 2],
 .seq (.reg [⟨(some 1), .box (.t 0), none, 0, 0, []⟩,
   ⟨(some 2), .mv (.k (.bool false)), none, 256, 1, []⟩])
 (.seq (.reg [⟨(some 7), .faddr 4 (.t 1), none, 65536, 0, []⟩,
   ⟨(some 8), .load 2 true (.t 7), none, 65792, 1, []⟩,
   ⟨(some 3), .alloc [(.int .i64 0), (.int .i64 0)], none, 66048, 2, []⟩,
   ⟨none, .store 2 (.t 3) (.t 8), none, 66304, 3, []⟩])
 (.seq (.reg [⟨(some 9), .faddr 6 (.t 1), none, 131072, 0, []⟩,
   ⟨(some 10), .load 1 false (.t 9), none, 131328, 1, []⟩,
   ⟨(some 4), .mv (.t 10), none, 131584, 2, []⟩])
 (.seq (.seq (.reg [⟨(some 5), .mv (.k (.int .i64 0)), none, 196608, 0, []⟩])
 (.block 0 (.loop [1, 3, 4, 5] [0, 66048, 131328]
  (.seq (.seq (.seq (.reg [⟨(some 11), .mv (.t 5), none, 262144, 0, []⟩,
    ⟨(some 12), .faddr 8 (.t 1), none, 262400, 1, []⟩,
    ⟨(some 13), .load 1 false (.t 12), none, 262656, 2, []⟩,
    ⟨(some 14), .len false (.t 13), none, 262912, 3, []⟩,
    ⟨(some 15), .bin .lss (.t 11) (.t 14), none, 263168, 4, []⟩,
    ⟨(some 16), .mv (.t 15), none, 263424, 5, []⟩,
    ⟨(some 17), .mv (.t 5), (some (some 16, true)), 263680, 6, []⟩,
    ⟨(some 18), .bin .leq (.t 17) (.k (.int .i64 24)), (some (some 16, true)), 263936, 7, []⟩,
    ⟨(some 19), .pick (.t 16) (.t 18) (.k (.bool false)), none, 264192, 8, []⟩])
  (.cond (.t 19)
   (.skip)
   (.exit 0)))
  (.seq (.block 1 (.seq (.reg [⟨(some 22), .faddr 8 (.t 1), none, 393216, 0, []⟩,
    ⟨(some 23), .load 1 false (.t 22), none, 393472, 1, []⟩,
    ⟨(some 24), .mv (.t 5), none, 393728, 2, []⟩,
    ⟨(some 25), .iaddr 10 (.t 23) (.t 24), none, 393984, 3, []⟩,
    ⟨(some 26), .load 10 true (.t 25), none, 394240, 4, []⟩,
    ⟨(some 6), .alloc [(.int .i64 0), (.int .i64 0), (.int .i64 0), (.int .i64 0), (.str ByteArray.empty), (.bool false), (.int .i64 0), (.int .i64 0), (.int .i64 0), (.int .i64 0)], none, 394496, 5, []⟩,
    ⟨none, .store 10 (.t 6) (.t 26), none, 394752, 6, []⟩])
  (.seq (.seq (.reg [⟨(some 27), .load 10 true (.t 6), none, 458752, 0, []⟩,
    ⟨(some 28), .call 174 [(.t 27)] true, none, 459008, 1, []⟩,
    ⟨(some 29), .not (.t 28), none, 459264, 2, []⟩,
    ⟨(some 30), .mv (.t 29), none, 459520, 3, []⟩,
    ⟨(some 31), .faddr 2 (.t 6), (some (some 30, false)), 459776, 4, []⟩,
    ⟨(some 32), .load 2 true (.t 31), (some (some 30, false)), 460032, 5, []⟩,
    ⟨(some 33), .load 2 true (.t 3), (some (some 30, false)), 460288, 6, []⟩,
    ⟨(some 34), .eqv true true [.i, .i] (.t 32) (.t 33), (some (some 30, false)), 460544, 7, []⟩,
    ⟨(some 35), .pick (.t 30) (.k (.bool true)) (.t 34), none, 460800, 8, []⟩])
  (.cond (.t 35)
   (.seq (.reg [⟨(some 2), .mv (.k (.bool false)), none, 524288, 0, []⟩])
   (.ret))
   (.skip)))
  (.seq (.reg [⟨(some 36), .faddr 0 (.t 6), none, 589824, 0, []⟩,
    ⟨(some 37), .load 2 true (.t 36), none, 590080, 1, []⟩,
    ⟨none, .store 2 (.t 3) (.t 37), none, 590336, 2, []⟩])
  (.seq (.reg [⟨(some 38), .mv (.t 4), none, 655360, 0, []⟩,
    ⟨(some 39), .load 10 true (.t 6), none, 655616, 1, []⟩,
    ⟨(some 40), .call 175 [(.t 38), (.t 39)] false, none, 655872, 2, []⟩,
    ⟨(some 4), .mv (.t 40), none, 656128, 3, []⟩])
  (.seq (.reg [⟨(some 41), .mv (.t 4), none, 720896, 0, []⟩,
    ⟨(some 42), .len false (.t 41), none, 721152, 1, []⟩,
    ⟨(some 43), .bin .gtr (.t 42) (.k (.int .i64 16)), none, 721408, 2, []⟩])
  (.cond (.t 43)
   (.seq (.reg [⟨(some 2), .mv (.k (.bool false)), none, 786432, 0, []⟩])
   (.ret))
   (.skip))))))))
  (.reg [⟨(some 20), .mv (.t 5), none, 327680, 0, []⟩,
    ⟨(some 21), .bin .add (.t 20) (.k (.int .i64 1)), none, 327936, 1, []⟩,
    ⟨(some 5), .mv (.t 21), none, 328192, 2, []⟩])))
  (.ren 655872 131328)))))
 (.seq (.reg [⟨(some 44), .faddr 8 (.t 1), none, 851968, 0, []⟩,
   ⟨(some 45), .load 1 false (.t 44), none, 852224, 1, []⟩,
   ⟨(some 46), .len false (.t 45), none, 852480, 2, []⟩,
   ⟨(some 47), .bin .leq (.t 46) (.k (.int .i64 24)), none, 852736, 3, []⟩,
   ⟨(some 2), .mv (.t 47), none, 852992, 4, []⟩])
 (.ret)))))⟩
def F102 : F := ⟨1, 18, [.cell 2 2 true],
 .seq (.reg [⟨(some 1), .box (.t 0), none, 0, 0, []⟩,
   ⟨(some 2), .alloc [(.int .i64 0), (.int .i64 0)], none, 256, 1, []⟩])
 (.seq (.seq (.reg [⟨(some 4), .faddr 8 (.t 1), none, 65536, 0, []⟩,
   ⟨(some 5), .load 1 false (.t 4), none, 65792, 1, []⟩,
   ⟨(some 6), .len false (.t 5), none, 66048, 2, []⟩,
   ⟨(some 3), .mv (.t 6), none, 66304, 3, []⟩])
 (.seq (.reg [⟨(some 7), .mv (.t 3), none, 131072, 0, []⟩,
   ⟨(some 8), .bin .gtr (.t 7) (.k (.int .i64 0)), none, 131328, 1, []⟩])
 (.cond (.t 8)
  (.seq (.reg [⟨(some 9), .faddr 8 (.t 1), none, 196608, 0, []⟩,
    ⟨(some 10), .load 1 false (.t 9), none, 196864, 1, []⟩,
    ⟨(some 11), .mv (.t 3), none, 197120, 2, []⟩,
    ⟨(some 12), .bin .sub (.t 11) (.k (.int .i64 1)), none, 197376, 3, []⟩,
    ⟨(some 13), .iaddr 10 (.t 10) (.t 12), none, 197632, 4, []⟩,
    ⟨(some 14), .faddr 0 (.t 13), none, 197888, 5, []⟩,
    ⟨(some 15), .load 2 true (.t 14), none, 198144, 6, []⟩,
    ⟨none, .store 2 (.t 2) (.t 15), none, 198400, 7, []⟩])
  (.ret))
  (.skip))))
 (.seq (.reg [⟨(some 16), .faddr 4 (.t 1), none, 262144, 0, []⟩,
   ⟨(some 17), .load 2 true (.t 16), none, 262400, 1, []⟩,
   ⟨none, .store 2 (.t 2) (.t 17), none, 262656, 2, []⟩])
 (.ret)))⟩
def F103 : F := ⟨1, 40, [.t 2],
 .seq (.reg [⟨(some 2), .mv (.k (.bool false)), none, 0, 0, []⟩])
 (.seq (.seq (.reg [⟨(some 3), .mv (.k (.int .i64 0)), none, 65536, 0, []⟩])
 (.block 0 (.loop [0, 3] []
  (.seq (.seq (.reg [⟨(some 4), .mv (.t 3), none, 131072, 0, []⟩,
    ⟨(some 5), .mv (.t 0), none, 131328, 1, []⟩,
    ⟨(some 6), .len false (.t 5), none, 131584, 2, []⟩,
    ⟨(some 7), .bin .lss (.t 4) (.t 6), none, 131840, 3, []⟩,
    ⟨(some 8), .mv (.t 7), none, 132096, 4, []⟩,
    ⟨(some 9), .mv (.t 3), (some (some 8, true)), 132352, 5, []⟩,
    ⟨(some 10), .bin .leq (.t 9) (.k (.int .i64 160)), (some (some 8, true)), 132608, 6, []⟩,
    ⟨(some 11), .pick (.t 8) (.t 10) (.k (.bool false)), none, 132864, 7, []⟩])
  (.cond (.t 11)
   (.skip)
   (.exit 0)))
  (.seq (.block 1 (.seq (.reg [⟨(some 14), .mv (.t 0), none, 262144, 0, []⟩,
    ⟨(some 15), .mv (.t 3), none, 262400, 1, []⟩,
    ⟨(some 16), .iaddr 6 (.t 14) (.t 15), none, 262656, 2, []⟩,
    ⟨(some 17), .load 6 true (.t 16), none, 262912, 3, []⟩,
    ⟨(some 18), .call 86 [(.t 17)] true, none, 263168, 4, []⟩,
    ⟨(some 19), .not (.t 18), none, 263424, 5, []⟩,
    ⟨(some 20), .mv (.t 19), none, 263680, 6, []⟩,
    ⟨(some 21), .mv (.t 3), (some (some 20, false)), 263936, 7, []⟩,
    ⟨(some 22), .bin .gtr (.t 21) (.k (.int .i64 0)), (some (some 20, false)), 264192, 8, []⟩,
    ⟨(some 23), .mv (.t 22), (some (some 20, false)), 264448, 9, []⟩,
    ⟨(some 24), .mv (.t 0), (some (some 23, true)), 264704, 10, []⟩,
    ⟨(some 25), .mv (.t 3), (some (some 23, true)), 264960, 11, []⟩,
    ⟨(some 26), .bin .sub (.t 25) (.k (.int .i64 1)), (some (some 23, true)), 265216, 12, []⟩,
    ⟨(some 27), .iaddr 6 (.t 24) (.t 26), (some (some 23, true)), 265472, 13, []⟩,
    ⟨(some 28), .load 6 true (.t 27), (some (some 23, true)), 265728, 14, []⟩,
    ⟨(some 29), .mv (.t 0), (some (some 23, true)), 265984, 15, []⟩,
    ⟨(some 30), .mv (.t 3), (some (some 23, true)), 266240, 16, []⟩,
    ⟨(some 31), .iaddr 6 (.t 29) (.t 30), (some (some 23, true)), 266496, 17, []⟩,
    ⟨(some 32), .load 6 true (.t 31), (some (some 23, true)), 266752, 18, []⟩,
    ⟨(some 33), .call 160 [(.t 28), (.t 32)] true, (some (some 23, true)), 267008, 19, []⟩,
    ⟨(some 34), .not (.t 33), (some (some 23, true)), 267264, 20, []⟩,
    ⟨(some 35), .pick (.t 23) (.t 34) (.k (.bool false)), (some (some 20, false)), 267520, 21, []⟩,
    ⟨(some 36), .pick (.t 20) (.k (.bool true)) (.t 35), none, 267776, 22, []⟩])
  (.cond (.t 36)
   (.seq (.reg [⟨(some 2), .mv (.k (.bool false)), none, 327680, 0, []⟩])
   (.ret))
   (.skip))))
  (.reg [⟨(some 12), .mv (.t 3), none, 196608, 0, []⟩,
    ⟨(some 13), .bin .add (.t 12) (.k (.int .i64 1)), none, 196864, 1, []⟩,
    ⟨(some 3), .mv (.t 13), none, 197120, 2, []⟩]))))))
 (.seq (.reg [⟨(some 37), .mv (.t 0), none, 393216, 0, []⟩,
   ⟨(some 38), .len false (.t 37), none, 393472, 1, []⟩,
   ⟨(some 39), .bin .leq (.t 38) (.k (.int .i64 160)), none, 393728, 2, []⟩,
   ⟨(some 2), .mv (.t 39), none, 393984, 3, []⟩])
 (.ret)))⟩
def F110 : F := ⟨1, 13, [.cell 2 2 true],
 .seq (.reg [⟨(some 1), .box (.t 0), none, 0, 0, []⟩,
   ⟨(some 2), .alloc [(.int .i64 0), (.int .i64 0)], none, 256, 1, []⟩])
 (.seq (.seq (.reg [⟨(some 3), .faddr 8 (.t 1), none, 65536, 0, []⟩,
   ⟨(some 4), .load 1 false (.t 3), none, 65792, 1, []⟩,
   ⟨(some 5), .len false (.t 4), none, 66048, 2, []⟩,
   ⟨(some 6), .bin .eql (.t 5) (.k (.int .i64 0)), none, 66304, 3, []⟩])
 (.cond (.t 6)
  (.seq (.reg [⟨(some 7), .faddr 4 (.t 1), none, 131072, 0, []⟩,
    ⟨(some 8), .load 2 true (.t 7), none, 131328, 1, []⟩,
    ⟨none, .store 2 (.t 2) (.t 8), none, 131584, 2, []⟩])
  (.ret))
  (.skip)))
 (.seq (.reg [⟨(some 9), .faddr 8 (.t 1), none, 196608, 0, []⟩,
   ⟨(some 10), .load 1 false (.t 9), none, 196864, 1, []⟩,
   ⟨(some 11), .call 187 [(.t 10)] true, none, 197120, 2, []⟩,
   ⟨(some 12), .field 0 2 true (.t 11), none, 197376, 3, []⟩,
   ⟨none, .store 2 (.t 2) (.t 12), none, 197632, 4, []⟩])
 (.ret)))⟩
def F111 : F := ⟨2, 17, [.t 4],
 .seq (.reg [⟨(some 2), .box (.t 0), none, 0, 0, []⟩,
   ⟨(some 3), .box (.t 1), none, 256, 1, []⟩,
   ⟨(some 4), .mv (.k (.int .i64 0)), none, 512, 2, []⟩])
 (.seq (.reg [⟨(some 5), .faddr 0 (.t 2), none, 65536, 0, []⟩,
   ⟨(some 6), .load 1 false (.t 5), none, 65792, 1, []⟩,
   ⟨(some 7), .faddr 0 (.t 3), none, 66048, 2, []⟩,
   ⟨(some 8), .load 1 false (.t 7), none, 66304, 3, []⟩,
   ⟨(some 9), .call 185 [(.t 6), (.t 8)] true, none, 66560, 4, []⟩,
   ⟨(some 10), .faddr 1 (.t 2), none, 66816, 5, []⟩,
   ⟨(some 11), .load 1 false (.t 10), none, 67072, 6, []⟩,
   ⟨(some 12), .faddr 1 (.t 3), none, 67328, 7, []⟩,
   ⟨(some 13), .load 1 false (.t 12), none, 67584, 8, []⟩,
   ⟨(some 14), .call 185 [(.t 11), (.t 13)] true, none, 67840, 9, []⟩,
   ⟨(some 15), .bslice true 1 [(.int .i64 0)] 2 [(0, (.t 9)), (1, (.t 14))], none, 68096, 10, []⟩,
   ⟨(some 16), .call 188 [(.t 15)] true, none, 68352, 11, []⟩,
   ⟨(some 4), .mv (.t 16), none, 68608, 12, []⟩])
 (.ret))⟩
def F127 : F := ⟨2, 27, [.t 4],
 .seq (.reg [⟨(some 4), .mv (.k (.int .i64 0)), none, 0, 0, []⟩])
 (.seq (.reg [⟨(some 6), .mv (.t 1), none, 65536, 0, []⟩,
   ⟨(some 7), .mv (.t 0), none, 65792, 1, []⟩,
   ⟨(some 8), .len false (.t 7), none, 66048, 2, []⟩,
   ⟨(some 9), .bin .sub (.t 6) (.t 8), none, 66304, 3, []⟩,
   ⟨(some 1), .mv (.t 9), none, 66560, 4, []⟩])
 (.seq (.seq (.reg [⟨(some 10), .mv (.t 1), none, 131072, 0, []⟩,
   ⟨(some 11), .bin .lss (.t 10) (.k (.int .i64 0)), none, 131328, 1, []⟩])
 (.cond (.t 11)
  (.seq (.reg [⟨(some 4), .mv (.k (.int .i64 (-1))), none, 196608, 0, []⟩])
  (.ret))
  (.skip)))
 (.seq (.seq (.reg [⟨(some 5), .mv (.k (.int .i64 0)), none, 262144, 0, []⟩])
 (.block 0 (.loop [0, 1, 5] []
  (.seq (.seq (.reg [⟨(some 12), .mv (.t 5), none, 327680, 0, []⟩,
    ⟨(some 13), .mv (.t 0), none, 327936, 1, []⟩,
    ⟨(some 14), .len false (.t 13), none, 328192, 2, []⟩,
    ⟨(some 15), .bin .lss (.t 12) (.t 14), none, 328448, 3, []⟩])
  (.cond (.t 15)
   (.skip)
   (.exit 0)))
  (.seq (.block 1 (.seq (.reg [⟨(some 18), .mv (.t 0), none, 458752, 0, []⟩,
    ⟨(some 19), .mv (.t 5), none, 459008, 1, []⟩,
    ⟨(some 20), .iaddr 12 (.t 18) (.t 19), none, 459264, 2, []⟩,
    ⟨(some 21), .load 12 true (.t 20), none, 459520, 3, []⟩,
    ⟨(some 22), .mv (.t 1), none, 459776, 4, []⟩,
    ⟨(some 23), .call 12 [(.t 21), (.t 22)] true, none, 460032, 5, []⟩,
    ⟨(some 1), .mv (.t 23), none, 460288, 6, []⟩])
  (.seq (.reg [⟨(some 24), .mv (.t 1), none, 524288, 0, []⟩,
    ⟨(some 25), .bin .lss (.t 24) (.k (.int .i64 0)), none, 524544, 1, []⟩])
  (.cond (.t 25)
   (.seq (.reg [⟨(some 4), .mv (.k (.int .i64 (-1))), none, 589824, 0, []⟩])
   (.ret))
   (.skip)))))
  (.reg [⟨(some 16), .mv (.t 5), none, 393216, 0, []⟩,
    ⟨(some 17), .bin .add (.t 16) (.k (.int .i64 1)), none, 393472, 1, []⟩,
    ⟨(some 5), .mv (.t 17), none, 393728, 2, []⟩]))))))
 (.seq (.reg [⟨(some 26), .mv (.t 1), none, 655360, 0, []⟩,
   ⟨(some 4), .mv (.t 26), none, 655616, 1, []⟩])
 (.ret)))))⟩
end Go.Ae.GA.B
