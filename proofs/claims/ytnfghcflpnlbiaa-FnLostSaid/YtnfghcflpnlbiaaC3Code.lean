/- The code of the functions, for the evaluator. -/
import Derived.Test.YtnfghcflpnlbiaaAeL6
import Derived.Test.YtnfghcflpnlbiaaC0N
namespace Go.Ae.C3

def md : Nat → Mode
  | 83 => .ref
  | 122 => .ref
  | 134 => .ref
  | 148 => .ref
  | 155 => .view
  | 156 => .ref
  | 169 => .ref
  | 170 => .ref
  | _ => .val
/-- loop.example/g00849/laws.FnStripes -/
def F9 : F := ⟨1, 152, [.t 2],
 .seq (.reg [⟨(some 2), .mv (.k (.bool false)), none, 0, 0, []⟩])
 (.seq (.seq (.reg [⟨(some 17), .mv (.t 0), none, 65536, 0, []⟩,
   ⟨(some 18), .len false (.t 17), none, 65792, 1, []⟩,
   ⟨(some 19), .bin .gtr (.t 18) (.k (.int .i64 1048576)), none, 66048, 2, []⟩])
 (.cond (.t 19)
  (.seq (.reg [⟨(some 2), .mv (.k (.bool true)), none, 131072, 0, []⟩])
  (.ret))
  (.skip)))
 (.seq (.reg [⟨(some 20), .mv (.t 0), none, 196608, 0, []⟩,
   ⟨(some 21), .call 30 [(.t 20)] true, none, 196864, 1, []⟩,
   ⟨(some 3), .alloc [(.int .i64 0), (.int .i64 0)], none, 197120, 2, []⟩,
   ⟨none, .store 2 (.t 3) (.t 21), none, 197376, 3, []⟩])
 (.seq (.reg [⟨(some 22), .mv (.t 0), none, 262144, 0, []⟩,
   ⟨(some 23), .call 46 [(.t 22)] true, none, 262400, 1, []⟩,
   ⟨(some 4), .mv (.t 23), none, 262656, 2, []⟩])
 (.seq (.reg [⟨(some 24), .mv (.t 4), none, 327680, 0, []⟩,
   ⟨(some 25), .len true (.t 24), none, 327936, 1, []⟩,
   ⟨(some 5), .mv (.t 25), none, 328192, 2, []⟩])
 (.seq (.reg [⟨(some 27), .load 2 true (.t 3), none, 393216, 0, []⟩,
   ⟨(some 28), .mv (.t 0), none, 393472, 1, []⟩,
   ⟨(some 29), .call 33 [(.t 28), (.k (.int .i64 0)), (.k (.int .i64 8))] true, none, 393728, 2, []⟩,
   ⟨(some 30), .bin .add (.k (.int .i64 1)) (.t 29), none, 393984, 3, []⟩,
   ⟨(some 31), .mv (.t 4), none, 394240, 4, []⟩,
   ⟨(some 32), .call 42 [(.t 27), (.t 30), (.t 31)] false, none, 394496, 5, []⟩,
   ⟨(some 26), .mv (.t 32), none, 394752, 6, []⟩,
   ⟨(some 33), .ext (.t 26) 0, none, 395008, 7, []⟩,
   ⟨(some 34), .ext (.t 26) 1, none, 395264, 8, []⟩,
   ⟨(some 6), .alloc [(.int .i64 0), (.int .i64 0), (.int .i64 0), (.int .i64 0), (.nil true 1)], none, 395520, 9, []⟩,
   ⟨none, .store 5 (.t 6) (.t 33), none, 395776, 10, []⟩,
   ⟨(some 7), .mv (.t 34), none, 396032, 11, []⟩])
 (.seq (.reg [⟨(some 36), .load 5 true (.t 6), none, 458752, 0, []⟩,
   ⟨(some 37), .call 47 [(.t 36)] true, none, 459008, 1, []⟩,
   ⟨(some 35), .mv (.t 37), none, 459264, 2, []⟩,
   ⟨(some 38), .ext (.t 35) 0, none, 459520, 3, []⟩,
   ⟨(some 39), .ext (.t 35) 1, none, 459776, 4, []⟩,
   ⟨(some 8), .mv (.t 38), none, 460032, 5, []⟩,
   ⟨(some 9), .mv (.t 39), none, 460288, 6, []⟩])
 (.seq (.reg [⟨(some 40), .mv (.t 0), none, 524288, 0, []⟩,
   ⟨(some 41), .mv (.t 5), none, 524544, 1, []⟩,
   ⟨(some 42), .bin .add (.t 41) (.k (.int .i64 1)), none, 524800, 2, []⟩,
   ⟨(some 43), .call 33 [(.t 40), (.k (.int .i64 1)), (.t 42)] true, none, 525056, 3, []⟩,
   ⟨(some 10), .mv (.t 43), none, 525312, 4, []⟩])
 (.seq (.reg [⟨(some 44), .mv (.t 0), none, 589824, 0, []⟩,
   ⟨(some 45), .call 33 [(.t 44), (.k (.int .i64 2)), (.k (.int .i64 50))] true, none, 590080, 1, []⟩,
   ⟨(some 11), .mv (.t 45), none, 590336, 2, []⟩])
 (.seq (.reg [⟨(some 47), .load 5 true (.t 6), none, 655360, 0, []⟩,
   ⟨(some 48), .mv (.t 10), none, 655616, 1, []⟩,
   ⟨(some 49), .mv (.t 11), none, 655872, 2, []⟩,
   ⟨(some 50), .call 48 [(.t 47), (.t 48), (.t 49)] true, none, 656128, 3, []⟩,
   ⟨(some 46), .mv (.t 50), none, 656384, 4, []⟩,
   ⟨(some 51), .ext (.t 46) 0, none, 656640, 5, []⟩,
   ⟨(some 52), .ext (.t 46) 1, none, 656896, 6, []⟩,
   ⟨(some 12), .mv (.t 51), none, 657152, 7, []⟩,
   ⟨(some 13), .mv (.t 52), none, 657408, 8, []⟩])
 (.seq (.seq (.reg [⟨(some 53), .mv (.t 7), none, 720896, 0, []⟩,
   ⟨(some 54), .bin .neq (.t 53) (.k (.int .i64 0)), none, 721152, 1, []⟩,
   ⟨(some 55), .mv (.t 54), none, 721408, 2, []⟩,
   ⟨(some 56), .mv (.t 9), (some (some 55, false)), 721664, 3, []⟩,
   ⟨(some 57), .bin .neq (.t 56) (.k (.int .i64 0)), (some (some 55, false)), 721920, 4, []⟩,
   ⟨(some 58), .pick (.t 55) (.k (.bool true)) (.t 57), none, 722176, 5, []⟩,
   ⟨(some 59), .mv (.t 58), none, 722432, 6, []⟩,
   ⟨(some 60), .mv (.t 8), (some (some 59, false)), 722688, 7, []⟩,
   ⟨(some 61), .mv (.t 4), (some (some 59, false)), 722944, 8, []⟩,
   ⟨(some 62), .bin .neq (.t 60) (.t 61), (some (some 59, false)), 723200, 9, []⟩,
   ⟨(some 63), .pick (.t 59) (.k (.bool true)) (.t 62), none, 723456, 10, []⟩,
   ⟨(some 64), .mv (.t 63), none, 723712, 11, []⟩,
   ⟨(some 65), .mv (.t 13), (some (some 64, false)), 723968, 12, []⟩,
   ⟨(some 66), .bin .neq (.t 65) (.k (.int .i64 0)), (some (some 64, false)), 724224, 13, []⟩,
   ⟨(some 67), .pick (.t 64) (.k (.bool true)) (.t 66), none, 724480, 14, []⟩,
   ⟨(some 68), .mv (.t 67), none, 724736, 15, []⟩,
   ⟨(some 69), .mv (.t 12), (some (some 68, false)), 724992, 16, []⟩,
   ⟨(some 70), .mv (.t 4), (some (some 68, false)), 725248, 17, []⟩,
   ⟨(some 71), .mv (.t 10), (some (some 68, false)), 725504, 18, []⟩,
   ⟨(some 72), .mv (.t 10), (some (some 68, false)), 725760, 19, []⟩,
   ⟨(some 73), .mv (.t 11), (some (some 68, false)), 726016, 20, []⟩,
   ⟨(some 74), .mv (.t 5), (some (some 68, false)), 726272, 21, []⟩,
   ⟨(some 75), .mv (.t 10), (some (some 68, false)), 726528, 22, []⟩,
   ⟨(some 76), .bin .sub (.t 74) (.t 75), (some (some 68, false)), 726784, 23, []⟩,
   ⟨(some 77), .min (.t 73) (.t 76), (some (some 68, false)), 727040, 24, []⟩,
   ⟨(some 78), .bin .add (.t 72) (.t 77), (some (some 68, false)), 727296, 25, []⟩,
   ⟨(some 79), .scut (.t 70) (some (.t 71)) (some (.t 78)), (some (some 68, false)), 727552, 26, []⟩,
   ⟨(some 80), .bin .neq (.t 69) (.t 79), (some (some 68, false)), 727808, 27, []⟩,
   ⟨(some 81), .pick (.t 68) (.k (.bool true)) (.t 80), none, 728064, 28, []⟩,
   ⟨(some 82), .mv (.t 81), none, 728320, 29, []⟩,
   ⟨(some 83), .load 5 true (.t 6), (some (some 82, false)), 728576, 30, []⟩,
   ⟨(some 84), .call 49 [(.t 83)] true, (some (some 82, false)), 728832, 31, []⟩,
   ⟨(some 85), .not (.t 84), (some (some 82, false)), 729088, 32, []⟩,
   ⟨(some 86), .pick (.t 82) (.k (.bool true)) (.t 85), none, 729344, 33, []⟩,
   ⟨(some 87), .mv (.t 86), none, 729600, 34, []⟩,
   ⟨(some 88), .load 5 true (.t 6), (some (some 87, false)), 729856, 35, []⟩,
   ⟨(some 89), .call 50 [(.t 88)] true, (some (some 87, false)), 730112, 36, []⟩,
   ⟨(some 90), .not (.t 89), (some (some 87, false)), 730368, 37, []⟩,
   ⟨(some 91), .pick (.t 87) (.k (.bool true)) (.t 90), none, 730624, 38, []⟩,
   ⟨(some 92), .mv (.t 91), none, 730880, 39, []⟩,
   ⟨(some 93), .faddr 4 (.t 6), (some (some 92, false)), 731136, 40, []⟩,
   ⟨(some 94), .load 1 false (.t 93), (some (some 92, false)), 731392, 41, []⟩,
   ⟨(some 95), .len false (.t 94), (some (some 92, false)), 731648, 42, []⟩,
   ⟨(some 96), .faddr 0 (.t 3), (some (some 92, false)), 731904, 43, []⟩,
   ⟨(some 97), .load 1 false (.t 96), (some (some 92, false)), 732160, 44, []⟩,
   ⟨(some 98), .faddr 1 (.t 3), (some (some 92, false)), 732416, 45, []⟩,
   ⟨(some 99), .load 1 false (.t 98), (some (some 92, false)), 732672, 46, []⟩,
   ⟨(some 100), .bin .add (.t 97) (.t 99), (some (some 92, false)), 732928, 47, []⟩,
   ⟨(some 101), .bin .neq (.t 95) (.t 100), (some (some 92, false)), 733184, 48, []⟩,
   ⟨(some 102), .pick (.t 92) (.k (.bool true)) (.t 101), none, 733440, 49, []⟩])
 (.cond (.t 102)
  (.seq (.reg [⟨(some 2), .mv (.k (.bool false)), none, 786432, 0, []⟩])
  (.ret))
  (.skip)))
 (.seq (.seq (.reg [⟨(some 103), .mv (.t 10), none, 851968, 0, []⟩,
   ⟨(some 104), .mv (.t 5), none, 852224, 1, []⟩,
   ⟨(some 105), .bin .eql (.t 103) (.t 104), none, 852480, 2, []⟩])
 (.cond (.t 105)
  (.seq (.reg [⟨(some 2), .mv (.k (.bool true)), none, 917504, 0, []⟩])
  (.ret))
  (.skip)))
 (.seq (.reg [⟨(some 107), .load 5 true (.t 6), none, 983040, 0, []⟩,
   ⟨(some 108), .mv (.t 10), none, 983296, 1, []⟩,
   ⟨(some 109), .call 51 [(.t 107), (.t 108)] true, none, 983552, 2, []⟩,
   ⟨(some 106), .mv (.t 109), none, 983808, 3, []⟩,
   ⟨(some 110), .ext (.t 106) 0, none, 984064, 4, []⟩,
   ⟨(some 111), .ext (.t 106) 1, none, 984320, 5, []⟩,
   ⟨(some 112), .ext (.t 106) 2, none, 984576, 6, []⟩,
   ⟨(some 14), .mv (.t 110), none, 984832, 7, []⟩,
   ⟨(some 15), .mv (.t 111), none, 985088, 8, []⟩,
   ⟨(some 16), .mv (.t 112), none, 985344, 9, []⟩])
 (.seq (.reg [⟨(some 113), .mv (.t 16), none, 1048576, 0, []⟩,
   ⟨(some 114), .bin .eql (.t 113) (.k (.int .i64 0)), none, 1048832, 1, []⟩,
   ⟨(some 115), .mv (.t 114), none, 1049088, 2, []⟩,
   ⟨(some 116), .mv (.t 14), (some (some 115, true)), 1049344, 3, []⟩,
   ⟨(some 117), .bin .geq (.t 116) (.k (.int .i64 0)), (some (some 115, true)), 1049600, 4, []⟩,
   ⟨(some 118), .pick (.t 115) (.t 117) (.k (.bool false)), none, 1049856, 5, []⟩,
   ⟨(some 119), .mv (.t 118), none, 1050112, 6, []⟩,
   ⟨(some 120), .mv (.t 14), (some (some 119, true)), 1050368, 7, []⟩,
   ⟨(some 121), .faddr 0 (.t 3), (some (some 119, true)), 1050624, 8, []⟩,
   ⟨(some 122), .load 1 false (.t 121), (some (some 119, true)), 1050880, 9, []⟩,
   ⟨(some 123), .bin .lss (.t 120) (.t 122), (some (some 119, true)), 1051136, 10, []⟩,
   ⟨(some 124), .pick (.t 119) (.t 123) (.k (.bool false)), none, 1051392, 11, []⟩,
   ⟨(some 125), .mv (.t 124), none, 1051648, 12, []⟩,
   ⟨(some 126), .mv (.t 15), (some (some 125, true)), 1051904, 13, []⟩,
   ⟨(some 127), .bin .geq (.t 126) (.k (.int .i64 0)), (some (some 125, true)), 1052160, 14, []⟩,
   ⟨(some 128), .pick (.t 125) (.t 127) (.k (.bool false)), none, 1052416, 15, []⟩,
   ⟨(some 129), .mv (.t 128), none, 1052672, 16, []⟩,
   ⟨(some 130), .mv (.t 15), (some (some 129, true)), 1052928, 17, []⟩,
   ⟨(some 131), .faddr 4 (.t 6), (some (some 129, true)), 1053184, 18, []⟩,
   ⟨(some 132), .load 1 false (.t 131), (some (some 129, true)), 1053440, 19, []⟩,
   ⟨(some 133), .mv (.t 14), (some (some 129, true)), 1053696, 20, []⟩,
   ⟨(some 134), .iaddr 1 (.t 132) (.t 133), (some (some 129, true)), 1053952, 21, []⟩,
   ⟨(some 135), .load 1 false (.t 134), (some (some 129, true)), 1054208, 22, []⟩,
   ⟨(some 136), .len true (.t 135), (some (some 129, true)), 1054464, 23, []⟩,
   ⟨(some 137), .bin .lss (.t 130) (.t 136), (some (some 129, true)), 1054720, 24, []⟩,
   ⟨(some 138), .pick (.t 129) (.t 137) (.k (.bool false)), none, 1054976, 25, []⟩,
   ⟨(some 139), .mv (.t 138), none, 1055232, 26, []⟩,
   ⟨(some 140), .faddr 4 (.t 6), (some (some 139, true)), 1055488, 27, []⟩,
   ⟨(some 141), .load 1 false (.t 140), (some (some 139, true)), 1055744, 28, []⟩,
   ⟨(some 142), .mv (.t 14), (some (some 139, true)), 1056000, 29, []⟩,
   ⟨(some 143), .iaddr 1 (.t 141) (.t 142), (some (some 139, true)), 1056256, 30, []⟩,
   ⟨(some 144), .load 1 false (.t 143), (some (some 139, true)), 1056512, 31, []⟩,
   ⟨(some 145), .mv (.t 15), (some (some 139, true)), 1056768, 32, []⟩,
   ⟨(some 146), .idx (.t 144) (.t 145), (some (some 139, true)), 1057024, 33, []⟩,
   ⟨(some 147), .mv (.t 4), (some (some 139, true)), 1057280, 34, []⟩,
   ⟨(some 148), .mv (.t 10), (some (some 139, true)), 1057536, 35, []⟩,
   ⟨(some 149), .idx (.t 147) (.t 148), (some (some 139, true)), 1057792, 36, []⟩,
   ⟨(some 150), .bin .eql (.t 146) (.t 149), (some (some 139, true)), 1058048, 37, []⟩,
   ⟨(some 151), .pick (.t 139) (.t 150) (.k (.bool false)), none, 1058304, 38, []⟩,
   ⟨(some 2), .mv (.t 151), none, 1058560, 39, []⟩])
 (.ret))))))))))))))⟩
/-- loop.example/g00849/laws.FnLost -/
def F11 : F := ⟨1, 147, [.t 2],
 .seq (.reg [⟨(some 2), .mv (.k (.bool false)), none, 0, 0, []⟩])
 (.seq (.seq (.reg [⟨(some 17), .mv (.t 0), none, 65536, 0, []⟩,
   ⟨(some 18), .len false (.t 17), none, 65792, 1, []⟩,
   ⟨(some 19), .bin .gtr (.t 18) (.k (.int .i64 1048576)), none, 66048, 2, []⟩])
 (.cond (.t 19)
  (.seq (.reg [⟨(some 2), .mv (.k (.bool true)), none, 131072, 0, []⟩])
  (.ret))
  (.skip)))
 (.seq (.reg [⟨(some 20), .mv (.t 0), none, 196608, 0, []⟩,
   ⟨(some 21), .call 30 [(.t 20)] true, none, 196864, 1, []⟩,
   ⟨(some 3), .alloc [(.int .i64 0), (.int .i64 0)], none, 197120, 2, []⟩,
   ⟨none, .store 2 (.t 3) (.t 21), none, 197376, 3, []⟩])
 (.seq (.reg [⟨(some 22), .mv (.t 0), none, 262144, 0, []⟩,
   ⟨(some 23), .call 46 [(.t 22)] true, none, 262400, 1, []⟩,
   ⟨(some 4), .mv (.t 23), none, 262656, 2, []⟩])
 (.seq (.reg [⟨(some 24), .mv (.t 4), none, 327680, 0, []⟩,
   ⟨(some 25), .len true (.t 24), none, 327936, 1, []⟩,
   ⟨(some 5), .mv (.t 25), none, 328192, 2, []⟩])
 (.seq (.reg [⟨(some 27), .load 2 true (.t 3), none, 393216, 0, []⟩,
   ⟨(some 28), .mv (.t 0), none, 393472, 1, []⟩,
   ⟨(some 29), .call 33 [(.t 28), (.k (.int .i64 0)), (.k (.int .i64 8))] true, none, 393728, 2, []⟩,
   ⟨(some 30), .bin .add (.k (.int .i64 1)) (.t 29), none, 393984, 3, []⟩,
   ⟨(some 31), .mv (.t 4), none, 394240, 4, []⟩,
   ⟨(some 32), .call 42 [(.t 27), (.t 30), (.t 31)] false, none, 394496, 5, []⟩,
   ⟨(some 26), .mv (.t 32), none, 394752, 6, []⟩,
   ⟨(some 33), .ext (.t 26) 0, none, 395008, 7, []⟩,
   ⟨(some 34), .ext (.t 26) 1, none, 395264, 8, []⟩,
   ⟨(some 6), .alloc [(.int .i64 0), (.int .i64 0), (.int .i64 0), (.int .i64 0), (.nil true 1)], none, 395520, 9, []⟩,
   ⟨none, .store 5 (.t 6) (.t 33), none, 395776, 10, []⟩,
   ⟨(some 7), .mv (.t 34), none, 396032, 11, []⟩])
 (.seq (.seq (.reg [⟨(some 35), .mv (.t 7), none, 458752, 0, []⟩,
   ⟨(some 36), .bin .neq (.t 35) (.k (.int .i64 0)), none, 459008, 1, []⟩,
   ⟨(some 37), .mv (.t 36), none, 459264, 2, []⟩,
   ⟨(some 38), .faddr 4 (.t 6), (some (some 37, false)), 459520, 3, []⟩,
   ⟨(some 39), .load 1 false (.t 38), (some (some 37, false)), 459776, 4, []⟩,
   ⟨(some 40), .len false (.t 39), (some (some 37, false)), 460032, 5, []⟩,
   ⟨(some 41), .faddr 0 (.t 3), (some (some 37, false)), 460288, 6, []⟩,
   ⟨(some 42), .load 1 false (.t 41), (some (some 37, false)), 460544, 7, []⟩,
   ⟨(some 43), .faddr 1 (.t 3), (some (some 37, false)), 460800, 8, []⟩,
   ⟨(some 44), .load 1 false (.t 43), (some (some 37, false)), 461056, 9, []⟩,
   ⟨(some 45), .bin .add (.t 42) (.t 44), (some (some 37, false)), 461312, 10, []⟩,
   ⟨(some 46), .bin .neq (.t 40) (.t 45), (some (some 37, false)), 461568, 11, []⟩,
   ⟨(some 47), .pick (.t 37) (.k (.bool true)) (.t 46), none, 461824, 12, []⟩])
 (.cond (.t 47)
  (.seq (.reg [⟨(some 2), .mv (.k (.bool false)), none, 524288, 0, []⟩])
  (.ret))
  (.skip)))
 (.seq (.reg [⟨(some 48), .mv (.t 0), none, 589824, 0, []⟩,
   ⟨(some 49), .mv (.t 0), none, 590080, 1, []⟩,
   ⟨(some 50), .faddr 1 (.t 3), none, 590336, 2, []⟩,
   ⟨(some 51), .load 1 false (.t 50), none, 590592, 3, []⟩,
   ⟨(some 52), .bin .add (.t 51) (.k (.int .i64 1)), none, 590848, 4, []⟩,
   ⟨(some 53), .call 33 [(.t 49), (.k (.int .i64 5)), (.t 52)] true, none, 591104, 5, []⟩,
   ⟨(some 54), .faddr 0 (.t 3), none, 591360, 6, []⟩,
   ⟨(some 55), .load 1 false (.t 54), none, 591616, 7, []⟩,
   ⟨(some 56), .faddr 1 (.t 3), none, 591872, 8, []⟩,
   ⟨(some 57), .load 1 false (.t 56), none, 592128, 9, []⟩,
   ⟨(some 58), .bin .add (.t 55) (.t 57), none, 592384, 10, []⟩,
   ⟨(some 59), .call 35 [(.t 48), (.t 53), (.t 58)] false, none, 592640, 11, []⟩,
   ⟨(some 8), .mv (.t 59), none, 592896, 12, []⟩])
 (.seq (.reg [⟨(some 60), .bslice true 1 [(.str ByteArray.empty)] 0 [], none, 655360, 0, []⟩,
   ⟨(some 61), .faddr 4 (.t 6), none, 655616, 1, []⟩,
   ⟨(some 62), .load 1 false (.t 61), none, 655872, 2, []⟩,
   ⟨(some 63), .app true 1 16 (.t 60) (.t 62), none, 656128, 3, []⟩,
   ⟨(some 9), .mv (.t 63), none, 656384, 4, []⟩])
 (.seq (.seq (.reg [⟨(some 10), .mv (.k (.int .i64 0)), none, 720896, 0, []⟩])
 (.block 0 (.loop [0, 3, 4, 5, 6, 8, 9, 10] [197120, 197377, 197378, 394496, 394497, 394498, 394499, 395520, 395525, 395777, 395778, 395779, 395780, 395781, 592640, 592641, 592642, 592643, 655360, 656128, 1049089, 1313280, 1313281, 1313282, 1313283]
  (.seq (.seq (.reg [⟨(some 64), .mv (.t 10), none, 786432, 0, []⟩,
    ⟨(some 65), .mv (.t 8), none, 786688, 1, []⟩,
    ⟨(some 66), .len false (.t 65), none, 786944, 2, []⟩,
    ⟨(some 67), .bin .lss (.t 64) (.t 66), none, 787200, 3, []⟩])
  (.cond (.t 67)
   (.skip)
   (.exit 0)))
  (.seq (.block 1 (.seq (.reg [⟨(some 70), .mv (.t 9), none, 917504, 0, []⟩,
    ⟨(some 71), .mv (.t 8), none, 917760, 1, []⟩,
    ⟨(some 72), .mv (.t 10), none, 918016, 2, []⟩,
    ⟨(some 73), .iaddr 1 (.t 71) (.t 72), none, 918272, 3, []⟩,
    ⟨(some 74), .load 1 false (.t 73), none, 918528, 4, []⟩,
    ⟨(some 75), .iaddr 1 (.t 70) (.t 74), none, 918784, 5, []⟩,
    ⟨(some 76), .load 1 false (.t 75), none, 919040, 6, []⟩,
    ⟨(some 77), .len true (.t 76), none, 919296, 7, []⟩,
    ⟨(some 78), .bin .gtr (.t 77) (.k (.int .i64 0)), none, 919552, 8, []⟩])
  (.cond (.t 78)
   (.reg [⟨(some 79), .mv (.t 9), none, 983040, 0, []⟩,
     ⟨(some 80), .mv (.t 8), none, 983296, 1, []⟩,
     ⟨(some 81), .mv (.t 10), none, 983552, 2, []⟩,
     ⟨(some 82), .iaddr 1 (.t 80) (.t 81), none, 983808, 3, []⟩,
     ⟨(some 83), .load 1 false (.t 82), none, 984064, 4, []⟩,
     ⟨(some 84), .mv (.t 9), none, 984320, 5, []⟩,
     ⟨(some 85), .mv (.t 8), none, 984576, 6, []⟩,
     ⟨(some 86), .mv (.t 10), none, 984832, 7, []⟩,
     ⟨(some 87), .iaddr 1 (.t 85) (.t 86), none, 985088, 8, []⟩,
     ⟨(some 88), .load 1 false (.t 87), none, 985344, 9, []⟩,
     ⟨(some 89), .iaddr 1 (.t 84) (.t 88), none, 985600, 10, []⟩,
     ⟨(some 90), .load 1 false (.t 89), none, 985856, 11, []⟩,
     ⟨(some 91), .mv (.t 0), none, 986112, 12, []⟩,
     ⟨(some 92), .call 39 [(.t 90), (.t 91)] true, none, 986368, 13, []⟩,
     ⟨(some 93), .iaddr 1 (.t 79) (.t 83), none, 986624, 14, []⟩,
     ⟨none, .store 1 (.t 93) (.t 92), none, 986880, 15, []⟩])
   (.skip))))
  (.reg [⟨(some 68), .mv (.t 10), none, 851968, 0, []⟩,
    ⟨(some 69), .bin .add (.t 68) (.k (.int .i64 1)), none, 852224, 1, []⟩,
    ⟨(some 10), .mv (.t 69), none, 852480, 2, []⟩]))))))
 (.seq (.reg [⟨(some 94), .mv (.t 9), none, 1048576, 0, []⟩,
   ⟨(some 95), .faddr 4 (.t 6), none, 1048832, 1, []⟩,
   ⟨none, .store 1 (.t 95) (.t 94), none, 1049088, 2, []⟩])
 (.seq (.reg [⟨(some 96), .mv (.t 0), none, 1114112, 0, []⟩,
   ⟨(some 97), .mv (.t 5), none, 1114368, 1, []⟩,
   ⟨(some 98), .bin .add (.t 97) (.k (.int .i64 1)), none, 1114624, 2, []⟩,
   ⟨(some 99), .call 33 [(.t 96), (.k (.int .i64 1)), (.t 98)] true, none, 1114880, 3, []⟩,
   ⟨(some 11), .mv (.t 99), none, 1115136, 4, []⟩])
 (.seq (.reg [⟨(some 100), .mv (.t 0), none, 1179648, 0, []⟩,
   ⟨(some 101), .call 33 [(.t 100), (.k (.int .i64 2)), (.k (.int .i64 50))] true, none, 1179904, 1, []⟩,
   ⟨(some 12), .mv (.t 101), none, 1180160, 2, []⟩])
 (.seq (.reg [⟨(some 103), .load 5 true (.t 6), none, 1245184, 0, []⟩,
   ⟨(some 104), .mv (.t 8), none, 1245440, 1, []⟩,
   ⟨(some 105), .mv (.t 11), none, 1245696, 2, []⟩,
   ⟨(some 106), .mv (.t 12), none, 1245952, 3, []⟩,
   ⟨(some 107), .call 55 [(.t 103), (.t 104), (.t 105), (.t 106)] true, none, 1246208, 4, []⟩,
   ⟨(some 102), .mv (.t 107), none, 1246464, 5, []⟩,
   ⟨(some 108), .ext (.t 102) 0, none, 1246720, 6, []⟩,
   ⟨(some 109), .ext (.t 102) 1, none, 1246976, 7, []⟩,
   ⟨(some 13), .mv (.t 108), none, 1247232, 8, []⟩,
   ⟨(some 14), .mv (.t 109), none, 1247488, 9, []⟩])
 (.seq (.reg [⟨(some 111), .load 5 true (.t 6), none, 1310720, 0, []⟩,
   ⟨(some 112), .mv (.t 0), none, 1310976, 1, []⟩,
   ⟨(some 113), .faddr 1 (.t 3), none, 1311232, 2, []⟩,
   ⟨(some 114), .load 1 false (.t 113), none, 1311488, 3, []⟩,
   ⟨(some 115), .bin .add (.t 114) (.k (.int .i64 1)), none, 1311744, 4, []⟩,
   ⟨(some 116), .faddr 0 (.t 3), none, 1312000, 5, []⟩,
   ⟨(some 117), .load 1 false (.t 116), none, 1312256, 6, []⟩,
   ⟨(some 118), .faddr 1 (.t 3), none, 1312512, 7, []⟩,
   ⟨(some 119), .load 1 false (.t 118), none, 1312768, 8, []⟩,
   ⟨(some 120), .bin .add (.t 117) (.t 119), none, 1313024, 9, []⟩,
   ⟨(some 121), .call 35 [(.t 112), (.t 115), (.t 120)] false, none, 1313280, 10, []⟩,
   ⟨(some 122), .mv (.t 11), none, 1313536, 11, []⟩,
   ⟨(some 123), .mv (.t 12), none, 1313792, 12, []⟩,
   ⟨(some 124), .call 55 [(.t 111), (.t 121), (.t 122), (.t 123)] true, none, 1314048, 13, []⟩,
   ⟨(some 110), .mv (.t 124), none, 1314304, 14, []⟩,
   ⟨(some 125), .ext (.t 110) 0, none, 1314560, 15, []⟩,
   ⟨(some 126), .ext (.t 110) 1, none, 1314816, 16, []⟩,
   ⟨(some 15), .mv (.t 125), none, 1315072, 17, []⟩,
   ⟨(some 16), .mv (.t 126), none, 1315328, 18, []⟩])
 (.seq (.reg [⟨(some 127), .mv (.t 14), none, 1376256, 0, []⟩,
   ⟨(some 128), .bin .eql (.t 127) (.k (.int .i64 0)), none, 1376512, 1, []⟩,
   ⟨(some 129), .mv (.t 128), none, 1376768, 2, []⟩,
   ⟨(some 130), .mv (.t 13), (some (some 129, true)), 1377024, 3, []⟩,
   ⟨(some 131), .mv (.t 4), (some (some 129, true)), 1377280, 4, []⟩,
   ⟨(some 132), .mv (.t 11), (some (some 129, true)), 1377536, 5, []⟩,
   ⟨(some 133), .mv (.t 11), (some (some 129, true)), 1377792, 6, []⟩,
   ⟨(some 134), .mv (.t 12), (some (some 129, true)), 1378048, 7, []⟩,
   ⟨(some 135), .mv (.t 5), (some (some 129, true)), 1378304, 8, []⟩,
   ⟨(some 136), .mv (.t 11), (some (some 129, true)), 1378560, 9, []⟩,
   ⟨(some 137), .bin .sub (.t 135) (.t 136), (some (some 129, true)), 1378816, 10, []⟩,
   ⟨(some 138), .min (.t 134) (.t 137), (some (some 129, true)), 1379072, 11, []⟩,
   ⟨(some 139), .bin .add (.t 133) (.t 138), (some (some 129, true)), 1379328, 12, []⟩,
   ⟨(some 140), .scut (.t 131) (some (.t 132)) (some (.t 139)), (some (some 129, true)), 1379584, 13, []⟩,
   ⟨(some 141), .bin .eql (.t 130) (.t 140), (some (some 129, true)), 1379840, 14, []⟩,
   ⟨(some 142), .pick (.t 129) (.t 141) (.k (.bool false)), none, 1380096, 15, []⟩,
   ⟨(some 143), .mv (.t 142), none, 1380352, 16, []⟩,
   ⟨(some 144), .mv (.t 16), (some (some 143, true)), 1380608, 17, []⟩,
   ⟨(some 145), .bin .eql (.t 144) (.k (.int .i64 8)), (some (some 143, true)), 1380864, 18, []⟩,
   ⟨(some 146), .pick (.t 143) (.t 145) (.k (.bool false)), none, 1381120, 19, []⟩,
   ⟨(some 2), .mv (.t 146), none, 1381376, 20, []⟩])
 (.ret))))))))))))))))⟩
/-- loop.example/g00849/laws.FnExactReadLost -/
def F12 : F := ⟨4, 64, [.t 8],
 .seq (.reg [⟨(some 4), .box (.t 0), none, 0, 0, []⟩,
   ⟨(some 8), .mv (.k (.bool false)), none, 256, 1, []⟩])
 (.seq (.seq (.reg [⟨(some 16), .mv (.t 1), none, 65536, 0, []⟩,
   ⟨(some 17), .len false (.t 16), none, 65792, 1, []⟩,
   ⟨(some 18), .bin .gtr (.t 17) (.k (.int .i64 1048576)), none, 66048, 2, []⟩])
 (.cond (.t 18)
  (.seq (.reg [⟨(some 8), .mv (.k (.bool true)), none, 131072, 0, []⟩])
  (.ret))
  (.skip)))
 (.seq (.reg [⟨(some 9), .mv (.k (.int .i64 1048576)), none, 196608, 0, []⟩])
 (.seq (.reg [⟨(some 19), .load 5 true (.t 4), none, 262144, 0, []⟩,
   ⟨(some 20), .mv (.t 9), none, 262400, 1, []⟩,
   ⟨(some 21), .call 52 [(.t 19), (.t 20)] true, none, 262656, 2, []⟩,
   ⟨(some 9), .mv (.t 21), none, 262912, 3, []⟩])
 (.seq (.seq (.reg [⟨(some 22), .mv (.t 9), none, 327680, 0, []⟩,
   ⟨(some 23), .bin .lss (.t 22) (.k (.int .i64 0)), none, 327936, 1, []⟩])
 (.cond (.t 23)
  (.seq (.reg [⟨(some 8), .mv (.k (.bool true)), none, 393216, 0, []⟩])
  (.ret))
  (.skip)))
 (.seq (.reg [⟨(some 25), .load 5 true (.t 4), none, 458752, 0, []⟩,
   ⟨(some 26), .call 54 [(.t 25)] false, none, 459008, 1, []⟩,
   ⟨(some 27), .mv (.t 1), none, 459264, 2, []⟩,
   ⟨(some 28), .call 57 [(.t 27)] false, none, 459520, 3, []⟩,
   ⟨(some 29), .mv (.t 2), none, 459776, 4, []⟩,
   ⟨(some 30), .mv (.t 3), none, 460032, 5, []⟩,
   ⟨(some 31), .call 56 [(.t 26), (.t 28), (.t 29), (.t 30)] true, none, 460288, 6, []⟩,
   ⟨(some 24), .mv (.t 31), none, 460544, 7, []⟩,
   ⟨(some 32), .ext (.t 24) 0, none, 460800, 8, []⟩,
   ⟨(some 33), .ext (.t 24) 1, none, 461056, 9, []⟩,
   ⟨(some 10), .mv (.t 32), none, 461312, 10, []⟩,
   ⟨(some 11), .mv (.t 33), none, 461568, 11, []⟩])
 (.seq (.reg [⟨(some 34), .load 5 true (.t 4), none, 524288, 0, []⟩,
   ⟨(some 35), .call 54 [(.t 34)] false, none, 524544, 1, []⟩,
   ⟨(some 12), .alloc [(.int .i64 0), (.int .i64 0), (.int .i64 0), (.int .i64 0), (.nil true 1)], none, 524800, 2, []⟩,
   ⟨none, .store 5 (.t 12) (.t 35), none, 525056, 3, []⟩])
 (.seq (.reg [⟨(some 36), .mv (.t 1), none, 589824, 0, []⟩,
   ⟨(some 37), .call 57 [(.t 36)] false, none, 590080, 1, []⟩,
   ⟨(some 13), .mv (.t 37), none, 590336, 2, []⟩])
 (.seq (.reg [⟨(some 39), .load 5 true (.t 12), none, 655360, 0, []⟩,
   ⟨(some 40), .mv (.t 13), none, 655616, 1, []⟩,
   ⟨(some 41), .mv (.t 2), none, 655872, 2, []⟩,
   ⟨(some 42), .mv (.t 3), none, 656128, 3, []⟩,
   ⟨(some 43), .call 55 [(.t 39), (.t 40), (.t 41), (.t 42)] true, none, 656384, 4, []⟩,
   ⟨(some 38), .mv (.t 43), none, 656640, 5, []⟩,
   ⟨(some 44), .ext (.t 38) 0, none, 656896, 6, []⟩,
   ⟨(some 45), .ext (.t 38) 1, none, 657152, 7, []⟩,
   ⟨(some 14), .mv (.t 44), none, 657408, 8, []⟩,
   ⟨(some 15), .mv (.t 45), none, 657664, 9, []⟩])
 (.seq (.seq (.reg [⟨(some 46), .mv (.t 14), none, 720896, 0, []⟩,
   ⟨(some 47), .mv (.t 10), none, 721152, 1, []⟩,
   ⟨(some 48), .bin .neq (.t 46) (.t 47), none, 721408, 2, []⟩,
   ⟨(some 49), .mv (.t 48), none, 721664, 3, []⟩,
   ⟨(some 50), .mv (.t 15), (some (some 49, false)), 721920, 4, []⟩,
   ⟨(some 51), .mv (.t 11), (some (some 49, false)), 722176, 5, []⟩,
   ⟨(some 52), .bin .neq (.t 50) (.t 51), (some (some 49, false)), 722432, 6, []⟩,
   ⟨(some 53), .pick (.t 49) (.k (.bool true)) (.t 52), none, 722688, 7, []⟩])
 (.cond (.t 53)
  (.seq (.reg [⟨(some 8), .mv (.k (.bool false)), none, 786432, 0, []⟩])
  (.ret))
  (.skip)))
 (.seq (.seq (.reg [⟨(some 54), .load 5 true (.t 12), none, 851968, 0, []⟩,
   ⟨(some 55), .load 5 true (.t 4), none, 852224, 1, []⟩,
   ⟨(some 56), .call 54 [(.t 55)] false, none, 852480, 2, []⟩,
   ⟨(some 57), .call 43 [(.t 54), (.t 56)] true, none, 852736, 3, []⟩,
   ⟨(some 58), .not (.t 57), none, 852992, 4, []⟩])
 (.cond (.t 58)
  (.seq (.reg [⟨(some 8), .mv (.k (.bool false)), none, 917504, 0, []⟩])
  (.ret))
  (.skip)))
 (.seq (.seq (.reg [⟨(some 59), .mv (.t 13), none, 983040, 0, []⟩,
   ⟨(some 60), .mv (.t 1), none, 983296, 1, []⟩,
   ⟨(some 61), .call 57 [(.t 60)] false, none, 983552, 2, []⟩,
   ⟨(some 62), .call 26 [(.t 59), (.t 61)] true, none, 983808, 3, []⟩,
   ⟨(some 63), .not (.t 62), none, 984064, 4, []⟩])
 (.cond (.t 63)
  (.seq (.reg [⟨(some 8), .mv (.k (.bool false)), none, 1048576, 0, []⟩])
  (.ret))
  (.skip)))
 (.seq (.reg [⟨(some 8), .mv (.k (.bool true)), none, 1114112, 0, []⟩])
 (.ret)))))))))))))⟩
/-- loop.example/g00849/laws.toCode -/
def F18 : F := ⟨1, 11, [.cell 2 2 true],
 .seq (.reg [⟨(some 1), .box (.t 0), none, 0, 0, []⟩,
   ⟨(some 2), .alloc [(.int .i64 0), (.int .i64 0)], none, 256, 1, []⟩])
 (.seq (.reg [⟨(some 3), .alloc [(.int .i64 0), (.int .i64 0)], none, 65536, 0, []⟩])
 (.seq (.reg [⟨(some 4), .faddr 0 (.t 1), none, 131072, 0, []⟩,
   ⟨(some 5), .load 1 false (.t 4), none, 131328, 1, []⟩,
   ⟨(some 6), .faddr 0 (.t 3), none, 131584, 2, []⟩,
   ⟨none, .store 1 (.t 6) (.t 5), none, 131840, 3, []⟩])
 (.seq (.reg [⟨(some 7), .faddr 1 (.t 1), none, 196608, 0, []⟩,
   ⟨(some 8), .load 1 false (.t 7), none, 196864, 1, []⟩,
   ⟨(some 9), .faddr 1 (.t 3), none, 197120, 2, []⟩,
   ⟨none, .store 1 (.t 9) (.t 8), none, 197376, 3, []⟩])
 (.seq (.reg [⟨(some 10), .load 2 true (.t 3), none, 262144, 0, []⟩,
   ⟨none, .store 2 (.t 2) (.t 10), none, 262400, 1, []⟩])
 (.ret)))))⟩
/-- loop.example/g00849/laws.eqInt64S -/
def F26 : F := ⟨2, 26, [.t 4],
 .seq (.reg [⟨(some 4), .mv (.k (.bool false)), none, 0, 0, []⟩])
 (.seq (.seq (.reg [⟨(some 6), .mv (.t 0), none, 65536, 0, []⟩,
   ⟨(some 7), .len false (.t 6), none, 65792, 1, []⟩,
   ⟨(some 8), .mv (.t 1), none, 66048, 2, []⟩,
   ⟨(some 9), .len false (.t 8), none, 66304, 3, []⟩,
   ⟨(some 10), .bin .neq (.t 7) (.t 9), none, 66560, 4, []⟩])
 (.cond (.t 10)
  (.seq (.reg [⟨(some 4), .mv (.k (.bool false)), none, 131072, 0, []⟩])
  (.ret))
  (.skip)))
 (.seq (.seq (.reg [⟨(some 5), .mv (.k (.int .i64 0)), none, 196608, 0, []⟩])
 (.block 0 (.loop [0, 1, 5] []
  (.seq (.seq (.reg [⟨(some 11), .mv (.t 5), none, 262144, 0, []⟩,
    ⟨(some 12), .mv (.t 0), none, 262400, 1, []⟩,
    ⟨(some 13), .len false (.t 12), none, 262656, 2, []⟩,
    ⟨(some 14), .bin .lss (.t 11) (.t 13), none, 262912, 3, []⟩])
  (.cond (.t 14)
   (.skip)
   (.exit 0)))
  (.seq (.block 1 (.seq (.reg [⟨(some 17), .mv (.t 0), none, 393216, 0, []⟩,
    ⟨(some 18), .mv (.t 5), none, 393472, 1, []⟩,
    ⟨(some 19), .iaddr 1 (.t 17) (.t 18), none, 393728, 2, []⟩,
    ⟨(some 20), .load 1 false (.t 19), none, 393984, 3, []⟩,
    ⟨(some 21), .mv (.t 1), none, 394240, 4, []⟩,
    ⟨(some 22), .mv (.t 5), none, 394496, 5, []⟩,
    ⟨(some 23), .iaddr 1 (.t 21) (.t 22), none, 394752, 6, []⟩,
    ⟨(some 24), .load 1 false (.t 23), none, 395008, 7, []⟩,
    ⟨(some 25), .bin .neq (.t 20) (.t 24), none, 395264, 8, []⟩])
  (.cond (.t 25)
   (.seq (.reg [⟨(some 4), .mv (.k (.bool false)), none, 458752, 0, []⟩])
   (.ret))
   (.skip))))
  (.reg [⟨(some 15), .mv (.t 5), none, 327680, 0, []⟩,
    ⟨(some 16), .bin .add (.t 15) (.k (.int .i64 1)), none, 327936, 1, []⟩,
    ⟨(some 5), .mv (.t 16), none, 328192, 2, []⟩]))))))
 (.seq (.reg [⟨(some 4), .mv (.k (.bool true)), none, 524288, 0, []⟩])
 (.ret))))⟩
/-- loop.example/g00849/spec.A8Code -/
def F30 : F := ⟨1, 8, [.cell 2 2 true],
 .seq (.reg [⟨(some 2), .alloc [(.int .i64 0), (.int .i64 0)], none, 0, 0, []⟩])
 (.seq (.reg [⟨(some 4), .mv (.t 0), none, 65536, 0, []⟩,
   ⟨(some 5), .call 82 [(.t 4)] false, none, 65792, 1, []⟩,
   ⟨(some 3), .mv (.t 5), none, 66048, 2, []⟩])
 (.seq (.reg [⟨(some 6), .mv (.t 3), none, 131072, 0, []⟩,
   ⟨(some 7), .call 83 [(.t 6)] true, none, 131328, 1, []⟩,
   ⟨none, .store 2 (.t 2) (.t 7), none, 131584, 2, []⟩])
 (.ret)))⟩
/-- loop.example/g00849/laws.a8At -/
def F33 : F := ⟨3, 42, [.t 6],
 .seq (.reg [⟨(some 6), .mv (.k (.int .i64 0)), none, 0, 0, []⟩])
 (.seq (.seq (.reg [⟨(some 8), .mv (.t 2), none, 65536, 0, []⟩,
   ⟨(some 9), .bin .leq (.t 8) (.k (.int .i64 1)), none, 65792, 1, []⟩])
 (.cond (.t 9)
  (.seq (.reg [⟨(some 6), .mv (.k (.int .i64 0)), none, 131072, 0, []⟩])
  (.ret))
  (.skip)))
 (.seq (.seq (.reg [⟨(some 10), .mv (.t 0), none, 196608, 0, []⟩,
   ⟨(some 11), .len false (.t 10), none, 196864, 1, []⟩,
   ⟨(some 12), .bin .eql (.t 11) (.k (.int .i64 0)), none, 197120, 2, []⟩])
 (.cond (.t 12)
  (.seq (.reg [⟨(some 13), .mv (.t 1), none, 262144, 0, []⟩,
    ⟨(some 14), .bin .mul (.t 13) (.k (.int .i64 7)), none, 262400, 1, []⟩,
    ⟨(some 15), .mv (.t 2), none, 262656, 2, []⟩,
    ⟨(some 16), .bin .rem (.t 14) (.t 15), none, 262912, 3, []⟩,
    ⟨(some 6), .mv (.t 16), none, 263168, 4, []⟩])
  (.ret))
  (.skip)))
 (.seq (.reg [⟨(some 17), .mv (.t 0), none, 327680, 0, []⟩,
   ⟨(some 18), .len false (.t 17), none, 327936, 1, []⟩,
   ⟨(some 7), .mv (.t 18), none, 328192, 2, []⟩])
 (.seq (.reg [⟨(some 19), .mv (.t 0), none, 393216, 0, []⟩,
   ⟨(some 20), .mv (.t 1), none, 393472, 1, []⟩,
   ⟨(some 21), .mv (.t 7), none, 393728, 2, []⟩,
   ⟨(some 22), .bin .rem (.t 20) (.t 21), none, 393984, 3, []⟩,
   ⟨(some 23), .iaddr 1 (.t 19) (.t 22), none, 394240, 4, []⟩,
   ⟨(some 24), .load 1 false (.t 23), none, 394496, 5, []⟩,
   ⟨(some 25), .conv .i64 (.t 24), none, 394752, 6, []⟩,
   ⟨(some 26), .bin .mul (.t 25) (.k (.int .i64 31)), none, 395008, 7, []⟩,
   ⟨(some 27), .mv (.t 0), none, 395264, 8, []⟩,
   ⟨(some 28), .mv (.t 1), none, 395520, 9, []⟩,
   ⟨(some 29), .bin .add (.t 28) (.k (.int .i64 1)), none, 395776, 10, []⟩,
   ⟨(some 30), .mv (.t 7), none, 396032, 11, []⟩,
   ⟨(some 31), .bin .rem (.t 29) (.t 30), none, 396288, 12, []⟩,
   ⟨(some 32), .iaddr 1 (.t 27) (.t 31), none, 396544, 13, []⟩,
   ⟨(some 33), .load 1 false (.t 32), none, 396800, 14, []⟩,
   ⟨(some 34), .conv .i64 (.t 33), none, 397056, 15, []⟩,
   ⟨(some 35), .bin .add (.t 26) (.t 34), none, 397312, 16, []⟩,
   ⟨(some 36), .mv (.t 1), none, 397568, 17, []⟩,
   ⟨(some 37), .mv (.t 7), none, 397824, 18, []⟩,
   ⟨(some 38), .bin .quo (.t 36) (.t 37), none, 398080, 19, []⟩,
   ⟨(some 39), .bin .add (.t 35) (.t 38), none, 398336, 20, []⟩,
   ⟨(some 40), .mv (.t 2), none, 398592, 21, []⟩,
   ⟨(some 41), .bin .rem (.t 39) (.t 40), none, 398848, 22, []⟩,
   ⟨(some 6), .mv (.t 41), none, 399104, 23, []⟩])
 (.ret)))))⟩
/-- loop.example/g00849/laws.a8Places -/
def F35 : F := ⟨3, 44, [.t 6],
 .seq (.reg [⟨(some 6), .nil0 true 1, none, 0, 0, []⟩])
 (.seq (.reg [⟨(some 11), .bslice true 1 [(.int .i64 0)] 0 [], none, 65536, 0, []⟩,
   ⟨(some 7), .mv (.t 11), none, 65792, 1, []⟩])
 (.seq (.seq (.reg [⟨(some 8), .mv (.k (.int .i64 0)), none, 131072, 0, []⟩])
 (.block 0 (.loop [0, 1, 2, 7, 8] [0, 65536]
  (.seq (.seq (.reg [⟨(some 12), .mv (.t 8), none, 196608, 0, []⟩,
    ⟨(some 13), .mv (.t 2), none, 196864, 1, []⟩,
    ⟨(some 14), .bin .lss (.t 12) (.t 13), none, 197120, 2, []⟩])
  (.cond (.t 14)
   (.skip)
   (.exit 0)))
  (.seq (.block 1 (.seq (.reg [⟨(some 17), .mv (.t 2), none, 327680, 0, []⟩,
    ⟨(some 18), .mv (.t 8), none, 327936, 1, []⟩,
    ⟨(some 19), .bin .sub (.t 17) (.t 18), none, 328192, 2, []⟩,
    ⟨(some 9), .mv (.t 19), none, 328448, 3, []⟩])
  (.seq (.reg [⟨(some 20), .mv (.t 1), none, 393216, 0, []⟩,
    ⟨(some 21), .mv (.t 7), none, 393472, 1, []⟩,
    ⟨(some 22), .len false (.t 21), none, 393728, 2, []⟩,
    ⟨(some 23), .bin .sub (.t 20) (.t 22), none, 393984, 3, []⟩,
    ⟨(some 10), .mv (.t 23), none, 394240, 4, []⟩])
  (.seq (.reg [⟨(some 24), .mv (.t 10), none, 458752, 0, []⟩,
    ⟨(some 25), .bin .gtr (.t 24) (.k (.int .i64 0)), none, 459008, 1, []⟩,
    ⟨(some 26), .mv (.t 25), none, 459264, 2, []⟩,
    ⟨(some 27), .mv (.t 9), (some (some 26, true)), 459520, 3, []⟩,
    ⟨(some 28), .mv (.t 10), (some (some 26, true)), 459776, 4, []⟩,
    ⟨(some 29), .bin .eql (.t 27) (.t 28), (some (some 26, true)), 460032, 5, []⟩,
    ⟨(some 30), .mv (.t 29), (some (some 26, true)), 460288, 6, []⟩,
    ⟨(some 31), .mv (.t 0), (some (some 30, false)), 460544, 7, []⟩,
    ⟨(some 32), .mv (.t 8), (some (some 30, false)), 460800, 8, []⟩,
    ⟨(some 33), .mv (.t 9), (some (some 30, false)), 461056, 9, []⟩,
    ⟨(some 34), .call 33 [(.t 31), (.t 32), (.t 33)] true, (some (some 30, false)), 461312, 10, []⟩,
    ⟨(some 35), .mv (.t 10), (some (some 30, false)), 461568, 11, []⟩,
    ⟨(some 36), .bin .lss (.t 34) (.t 35), (some (some 30, false)), 461824, 12, []⟩,
    ⟨(some 37), .pick (.t 30) (.k (.bool true)) (.t 36), (some (some 26, true)), 462080, 13, []⟩,
    ⟨(some 38), .pick (.t 26) (.t 37) (.k (.bool false)), none, 462336, 14, []⟩])
  (.cond (.t 38)
   (.reg [⟨(some 39), .mv (.t 7), none, 524288, 0, []⟩,
     ⟨(some 40), .mv (.t 8), none, 524544, 1, []⟩,
     ⟨(some 41), .bslice true 1 [(.int .i64 0)] 1 [(0, (.t 40))], none, 524800, 2, []⟩,
     ⟨(some 42), .app true 1 8 (.t 39) (.t 41), none, 525056, 3, []⟩,
     ⟨(some 7), .mv (.t 42), none, 525312, 4, []⟩])
   (.skip))))))
  (.reg [⟨(some 15), .mv (.t 8), none, 262144, 0, []⟩,
    ⟨(some 16), .bin .add (.t 15) (.k (.int .i64 1)), none, 262400, 1, []⟩,
    ⟨(some 8), .mv (.t 16), none, 262656, 2, []⟩]))))))
 (.seq (.reg [⟨(some 43), .mv (.t 7), none, 589824, 0, []⟩,
   ⟨(some 6), .mv (.t 43), none, 590080, 1, []⟩])
 (.ret))))⟩
/-- loop.example/g00849/laws.a8Turn -/
def F39 : F := ⟨2, 29, [.t 4],
 .seq (.reg [⟨(some 4), .mv (.k (.str ByteArray.empty)), none, 0, 0, []⟩])
 (.seq (.reg [⟨(some 6), .mv (.t 1), none, 65536, 0, []⟩,
   ⟨(some 7), .mv (.t 0), none, 65792, 1, []⟩,
   ⟨(some 8), .len true (.t 7), none, 66048, 2, []⟩,
   ⟨(some 9), .call 33 [(.t 6), (.k (.int .i64 3)), (.t 8)] true, none, 66304, 3, []⟩,
   ⟨(some 5), .mv (.t 9), none, 66560, 4, []⟩])
 (.seq (.reg [⟨(some 10), .mv (.t 0), none, 131072, 0, []⟩,
   ⟨(some 11), .mv (.t 5), none, 131328, 1, []⟩,
   ⟨(some 12), .scut (.t 10) none (some (.t 11)), none, 131584, 2, []⟩,
   ⟨(some 13), .mv (.t 0), none, 131840, 3, []⟩,
   ⟨(some 14), .mv (.t 5), none, 132096, 4, []⟩,
   ⟨(some 15), .idx (.t 13) (.t 14), none, 132352, 5, []⟩,
   ⟨(some 16), .mv (.t 1), none, 132608, 6, []⟩,
   ⟨(some 17), .call 33 [(.t 16), (.k (.int .i64 5)), (.k (.int .i64 255))] true, none, 132864, 7, []⟩,
   ⟨(some 18), .bin .add (.k (.int .i64 1)) (.t 17), none, 133120, 8, []⟩,
   ⟨(some 19), .conv .u8 (.t 18), none, 133376, 9, []⟩,
   ⟨(some 20), .bin .xor (.t 15) (.t 19), none, 133632, 10, []⟩,
   ⟨(some 21), .bslice true 1 [(.int .u8 0)] 1 [(0, (.t 20))], none, 133888, 11, []⟩,
   ⟨(some 22), .b2s (.t 21), none, 134144, 12, []⟩,
   ⟨(some 23), .bin .add (.t 12) (.t 22), none, 134400, 13, []⟩,
   ⟨(some 24), .mv (.t 0), none, 134656, 14, []⟩,
   ⟨(some 25), .mv (.t 5), none, 134912, 15, []⟩,
   ⟨(some 26), .bin .add (.t 25) (.k (.int .i64 1)), none, 135168, 16, []⟩,
   ⟨(some 27), .scut (.t 24) (some (.t 26)) none, none, 135424, 17, []⟩,
   ⟨(some 28), .bin .add (.t 23) (.t 27), none, 135680, 18, []⟩,
   ⟨(some 4), .mv (.t 28), none, 135936, 19, []⟩])
 (.ret)))⟩
/-- loop.example/g00849/impl.WideOf -/
def F42 : F := ⟨3, 27, [.cell 6 5 true, .t 7],
 .seq (.reg [⟨(some 3), .box (.t 0), none, 0, 0, []⟩,
   ⟨(some 6), .alloc [(.int .i64 0), (.int .i64 0), (.int .i64 0), (.int .i64 0), (.nil true 1)], none, 256, 1, []⟩,
   ⟨(some 7), .mv (.k (.int .i64 0)), none, 512, 2, []⟩])
 (.seq (.block 0 (.seq (.reg [⟨(some 9), .load 2 true (.t 3), none, 65536, 0, []⟩,
   ⟨(some 10), .call 84 [(.t 9)] true, none, 65792, 1, []⟩,
   ⟨(some 11), .not (.t 10), none, 66048, 2, []⟩,
   ⟨(some 8), .mv (.t 11), none, 66304, 3, []⟩])
 (.cond (.t 8)
  (.seq (.reg [⟨(some 12), .build [(.int .i64 0), (.int .i64 0), (.int .i64 0), (.int .i64 0), (.nil true 1)] [], none, 131072, 0, []⟩,
    ⟨none, .store 5 (.t 6) (.t 12), none, 131328, 1, []⟩,
    ⟨(some 7), .mv (.k (.int .i64 1)), none, 131584, 2, []⟩])
  (.ret))
  (.seq (.reg [⟨(some 14), .mv (.t 1), none, 196608, 0, []⟩,
    ⟨(some 15), .call 86 [(.t 14), (.k (.int .i64 1)), (.k (.int .i64 8))] true, none, 196864, 1, []⟩,
    ⟨(some 16), .not (.t 15), none, 197120, 2, []⟩,
    ⟨(some 13), .mv (.t 16), none, 197376, 3, []⟩])
  (.cond (.t 13)
   (.seq (.reg [⟨(some 17), .build [(.int .i64 0), (.int .i64 0), (.int .i64 0), (.int .i64 0), (.nil true 1)] [], none, 262144, 0, []⟩,
     ⟨none, .store 5 (.t 6) (.t 17), none, 262400, 1, []⟩,
     ⟨(some 7), .mv (.k (.int .i64 2)), none, 262656, 2, []⟩])
   (.ret))
   (.seq (.reg [⟨(some 19), .mv (.t 2), none, 327680, 0, []⟩,
     ⟨(some 20), .len true (.t 19), none, 327936, 1, []⟩,
     ⟨(some 21), .bin .gtr (.t 20) (.k (.int .i64 256)), none, 328192, 2, []⟩,
     ⟨(some 18), .mv (.t 21), none, 328448, 3, []⟩])
   (.cond (.t 18)
    (.seq (.reg [⟨(some 22), .build [(.int .i64 0), (.int .i64 0), (.int .i64 0), (.int .i64 0), (.nil true 1)] [], none, 393216, 0, []⟩,
      ⟨none, .store 5 (.t 6) (.t 22), none, 393472, 1, []⟩,
      ⟨(some 7), .mv (.k (.int .i64 4)), none, 393728, 2, []⟩])
    (.ret))
    (.skip))))))))
 (.seq (.reg [⟨(some 23), .load 2 true (.t 3), none, 458752, 0, []⟩,
   ⟨(some 24), .mv (.t 1), none, 459008, 1, []⟩,
   ⟨(some 25), .mv (.t 2), none, 459264, 2, []⟩,
   ⟨(some 26), .call 90 [(.t 23), (.t 24), (.t 25)] false, none, 459520, 3, []⟩,
   ⟨none, .store 5 (.t 6) (.t 26), none, 459776, 4, []⟩,
   ⟨(some 7), .mv (.k (.int .i64 0)), none, 460032, 5, []⟩])
 (.ret)))⟩
/-- loop.example/g00849/laws.eqWide -/
def F43 : F := ⟨2, 27, [.t 4],
 .seq (.reg [⟨(some 2), .box (.t 0), none, 0, 0, []⟩,
   ⟨(some 3), .box (.t 1), none, 256, 1, []⟩,
   ⟨(some 4), .mv (.k (.bool false)), none, 512, 2, []⟩])
 (.seq (.seq (.reg [⟨(some 5), .faddr 0 (.t 2), none, 65536, 0, []⟩,
   ⟨(some 6), .load 2 true (.t 5), none, 65792, 1, []⟩,
   ⟨(some 7), .faddr 0 (.t 3), none, 66048, 2, []⟩,
   ⟨(some 8), .load 2 true (.t 7), none, 66304, 3, []⟩,
   ⟨(some 9), .call 91 [(.t 6), (.t 8)] true, none, 66560, 4, []⟩,
   ⟨(some 10), .not (.t 9), none, 66816, 5, []⟩])
 (.cond (.t 10)
  (.seq (.reg [⟨(some 4), .mv (.k (.bool false)), none, 131072, 0, []⟩])
  (.ret))
  (.skip)))
 (.seq (.seq (.reg [⟨(some 11), .faddr 2 (.t 2), none, 196608, 0, []⟩,
   ⟨(some 12), .load 1 false (.t 11), none, 196864, 1, []⟩,
   ⟨(some 13), .faddr 2 (.t 3), none, 197120, 2, []⟩,
   ⟨(some 14), .load 1 false (.t 13), none, 197376, 3, []⟩,
   ⟨(some 15), .bin .neq (.t 12) (.t 14), none, 197632, 4, []⟩])
 (.cond (.t 15)
  (.seq (.reg [⟨(some 4), .mv (.k (.bool false)), none, 262144, 0, []⟩])
  (.ret))
  (.skip)))
 (.seq (.seq (.reg [⟨(some 16), .faddr 3 (.t 2), none, 327680, 0, []⟩,
   ⟨(some 17), .load 1 false (.t 16), none, 327936, 1, []⟩,
   ⟨(some 18), .faddr 3 (.t 3), none, 328192, 2, []⟩,
   ⟨(some 19), .load 1 false (.t 18), none, 328448, 3, []⟩,
   ⟨(some 20), .bin .neq (.t 17) (.t 19), none, 328704, 4, []⟩])
 (.cond (.t 20)
  (.seq (.reg [⟨(some 4), .mv (.k (.bool false)), none, 393216, 0, []⟩])
  (.ret))
  (.skip)))
 (.seq (.seq (.reg [⟨(some 21), .faddr 4 (.t 2), none, 458752, 0, []⟩,
   ⟨(some 22), .load 1 false (.t 21), none, 459008, 1, []⟩,
   ⟨(some 23), .faddr 4 (.t 3), none, 459264, 2, []⟩,
   ⟨(some 24), .load 1 false (.t 23), none, 459520, 3, []⟩,
   ⟨(some 25), .call 92 [(.t 22), (.t 24)] true, none, 459776, 4, []⟩,
   ⟨(some 26), .not (.t 25), none, 460032, 5, []⟩])
 (.cond (.t 26)
  (.seq (.reg [⟨(some 4), .mv (.k (.bool false)), none, 524288, 0, []⟩])
  (.ret))
  (.skip)))
 (.seq (.reg [⟨(some 4), .mv (.k (.bool true)), none, 589824, 0, []⟩])
 (.ret))))))⟩
/-- loop.example/g00849/laws.a8Wide -/
def F46 : F := ⟨1, 19, [.t 2],
 .seq (.reg [⟨(some 2), .mv (.k (.str ByteArray.empty)), none, 0, 0, []⟩])
 (.seq (.reg [⟨(some 4), .mv (.t 0), none, 65536, 0, []⟩,
   ⟨(some 5), .call 65 [(.t 4)] true, none, 65792, 1, []⟩,
   ⟨(some 6), .mv (.t 0), none, 66048, 2, []⟩,
   ⟨(some 7), .call 66 [(.k (.int .i64 7)), (.t 6)] false, none, 66304, 3, []⟩,
   ⟨(some 8), .call 65 [(.t 7)] true, none, 66560, 4, []⟩,
   ⟨(some 9), .bin .add (.t 5) (.t 8), none, 66816, 5, []⟩,
   ⟨(some 10), .mv (.t 0), none, 67072, 6, []⟩,
   ⟨(some 11), .call 66 [(.k (.int .i64 8)), (.t 10)] false, none, 67328, 7, []⟩,
   ⟨(some 12), .call 65 [(.t 11)] true, none, 67584, 8, []⟩,
   ⟨(some 13), .bin .add (.t 9) (.t 12), none, 67840, 9, []⟩,
   ⟨(some 3), .mv (.t 13), none, 68096, 10, []⟩])
 (.seq (.reg [⟨(some 14), .mv (.t 3), none, 131072, 0, []⟩,
   ⟨(some 15), .mv (.t 3), none, 131328, 1, []⟩,
   ⟨(some 16), .len true (.t 15), none, 131584, 2, []⟩,
   ⟨(some 17), .min (.t 16) (.k (.int .i64 256)), none, 131840, 3, []⟩,
   ⟨(some 18), .scut (.t 14) none (some (.t 17)), none, 132096, 4, []⟩,
   ⟨(some 2), .mv (.t 18), none, 132352, 5, []⟩])
 (.ret)))⟩
/-- loop.example/g00849/impl.WideBody -/
def F47 : F := ⟨1, 13, [.t 2, .t 3],
 .seq (.reg [⟨(some 1), .box (.t 0), none, 0, 0, []⟩,
   ⟨(some 2), .mv (.k (.str ByteArray.empty)), none, 256, 1, []⟩,
   ⟨(some 3), .mv (.k (.int .i64 0)), none, 512, 2, []⟩])
 (.seq (.seq (.reg [⟨(some 4), .load 5 true (.t 1), none, 65536, 0, []⟩,
   ⟨(some 5), .call 49 [(.t 4)] true, none, 65792, 1, []⟩,
   ⟨(some 6), .not (.t 5), none, 66048, 2, []⟩])
 (.cond (.t 6)
  (.seq (.reg [⟨(some 2), .mv (.k (.str ByteArray.empty)), none, 131072, 0, []⟩,
    ⟨(some 3), .mv (.k (.int .i64 1)), none, 131328, 1, []⟩])
  (.ret))
  (.skip)))
 (.seq (.reg [⟨(some 7), .load 5 true (.t 1), none, 196608, 0, []⟩,
   ⟨(some 8), .faddr 4 (.t 1), none, 196864, 1, []⟩,
   ⟨(some 9), .load 1 false (.t 8), none, 197120, 2, []⟩,
   ⟨(some 10), .faddr 3 (.t 1), none, 197376, 3, []⟩,
   ⟨(some 11), .load 1 false (.t 10), none, 197632, 4, []⟩,
   ⟨(some 12), .call 95 [(.t 7), (.t 9), (.k (.int .i64 0)), (.t 11)] true, none, 197888, 5, []⟩,
   ⟨(some 2), .mv (.t 12), none, 198144, 6, []⟩,
   ⟨(some 3), .mv (.k (.int .i64 0)), none, 198400, 7, []⟩])
 (.ret)))⟩
/-- loop.example/g00849/impl.ReadWide -/
def F48 : F := ⟨3, 33, [.t 6, .t 7],
 .seq (.reg [⟨(some 3), .box (.t 0), none, 0, 0, []⟩,
   ⟨(some 6), .mv (.k (.str ByteArray.empty)), none, 256, 1, []⟩,
   ⟨(some 7), .mv (.k (.int .i64 0)), none, 512, 2, []⟩])
 (.seq (.block 0 (.seq (.reg [⟨(some 9), .load 5 true (.t 3), none, 65536, 0, []⟩,
   ⟨(some 10), .call 49 [(.t 9)] true, none, 65792, 1, []⟩,
   ⟨(some 11), .not (.t 10), none, 66048, 2, []⟩,
   ⟨(some 8), .mv (.t 11), none, 66304, 3, []⟩])
 (.cond (.t 8)
  (.seq (.reg [⟨(some 6), .mv (.k (.str ByteArray.empty)), none, 131072, 0, []⟩,
    ⟨(some 7), .mv (.k (.int .i64 1)), none, 131328, 1, []⟩])
  (.ret))
  (.seq (.reg [⟨(some 13), .mv (.t 1), none, 196608, 0, []⟩,
    ⟨(some 14), .faddr 3 (.t 3), none, 196864, 1, []⟩,
    ⟨(some 15), .load 1 false (.t 14), none, 197120, 2, []⟩,
    ⟨(some 16), .call 86 [(.t 13), (.k (.int .i64 0)), (.t 15)] true, none, 197376, 3, []⟩,
    ⟨(some 17), .not (.t 16), none, 197632, 4, []⟩,
    ⟨(some 18), .mv (.t 17), none, 197888, 5, []⟩,
    ⟨(some 19), .mv (.t 2), (some (some 18, false)), 198144, 6, []⟩,
    ⟨(some 20), .bin .lss (.t 19) (.k (.int .i64 0)), (some (some 18, false)), 198400, 7, []⟩,
    ⟨(some 21), .pick (.t 18) (.k (.bool true)) (.t 20), none, 198656, 8, []⟩,
    ⟨(some 12), .mv (.t 21), none, 198912, 9, []⟩])
  (.cond (.t 12)
   (.seq (.reg [⟨(some 6), .mv (.k (.str ByteArray.empty)), none, 262144, 0, []⟩,
     ⟨(some 7), .mv (.k (.int .i64 2)), none, 262400, 1, []⟩])
   (.ret))
   (.skip))))))
 (.seq (.reg [⟨(some 22), .load 5 true (.t 3), none, 327680, 0, []⟩,
   ⟨(some 23), .faddr 4 (.t 3), none, 327936, 1, []⟩,
   ⟨(some 24), .load 1 false (.t 23), none, 328192, 2, []⟩,
   ⟨(some 25), .mv (.t 1), none, 328448, 3, []⟩,
   ⟨(some 26), .mv (.t 2), none, 328704, 4, []⟩,
   ⟨(some 27), .faddr 3 (.t 3), none, 328960, 5, []⟩,
   ⟨(some 28), .load 1 false (.t 27), none, 329216, 6, []⟩,
   ⟨(some 29), .mv (.t 1), none, 329472, 7, []⟩,
   ⟨(some 30), .bin .sub (.t 28) (.t 29), none, 329728, 8, []⟩,
   ⟨(some 31), .min (.t 26) (.t 30), none, 329984, 9, []⟩,
   ⟨(some 32), .call 95 [(.t 22), (.t 24), (.t 25), (.t 31)] true, none, 330240, 10, []⟩,
   ⟨(some 6), .mv (.t 32), none, 330496, 11, []⟩,
   ⟨(some 7), .mv (.k (.int .i64 0)), none, 330752, 12, []⟩])
 (.ret)))⟩
/-- loop.example/g00849/impl.WideOk -/
def F49 : F := ⟨1, 33, [.t 2],
 .seq (.reg [⟨(some 1), .box (.t 0), none, 0, 0, []⟩,
   ⟨(some 2), .mv (.k (.bool false)), none, 256, 1, []⟩])
 (.seq (.seq (.reg [⟨(some 3), .faddr 0 (.t 1), none, 65536, 0, []⟩,
   ⟨(some 4), .load 2 true (.t 3), none, 65792, 1, []⟩,
   ⟨(some 5), .call 84 [(.t 4)] true, none, 66048, 2, []⟩,
   ⟨(some 6), .not (.t 5), none, 66304, 3, []⟩,
   ⟨(some 7), .mv (.t 6), none, 66560, 4, []⟩,
   ⟨(some 8), .faddr 2 (.t 1), (some (some 7, false)), 66816, 5, []⟩,
   ⟨(some 9), .load 1 false (.t 8), (some (some 7, false)), 67072, 6, []⟩,
   ⟨(some 10), .call 86 [(.t 9), (.k (.int .i64 1)), (.k (.int .i64 8))] true, (some (some 7, false)), 67328, 7, []⟩,
   ⟨(some 11), .not (.t 10), (some (some 7, false)), 67584, 8, []⟩,
   ⟨(some 12), .pick (.t 7) (.k (.bool true)) (.t 11), none, 67840, 9, []⟩,
   ⟨(some 13), .mv (.t 12), none, 68096, 10, []⟩,
   ⟨(some 14), .faddr 3 (.t 1), (some (some 13, false)), 68352, 11, []⟩,
   ⟨(some 15), .load 1 false (.t 14), (some (some 13, false)), 68608, 12, []⟩,
   ⟨(some 16), .call 86 [(.t 15), (.k (.int .i64 0)), (.k (.int .i64 256))] true, (some (some 13, false)), 68864, 13, []⟩,
   ⟨(some 17), .not (.t 16), (some (some 13, false)), 69120, 14, []⟩,
   ⟨(some 18), .pick (.t 13) (.k (.bool true)) (.t 17), none, 69376, 15, []⟩,
   ⟨(some 19), .mv (.t 18), none, 69632, 16, []⟩,
   ⟨(some 20), .faddr 4 (.t 1), (some (some 19, false)), 69888, 17, []⟩,
   ⟨(some 21), .load 1 false (.t 20), (some (some 19, false)), 70144, 18, []⟩,
   ⟨(some 22), .len false (.t 21), (some (some 19, false)), 70400, 19, []⟩,
   ⟨(some 23), .faddr 0 (.t 1), (some (some 19, false)), 70656, 20, []⟩,
   ⟨(some 24), .load 2 true (.t 23), (some (some 19, false)), 70912, 21, []⟩,
   ⟨(some 25), .call 96 [(.t 24)] true, (some (some 19, false)), 71168, 22, []⟩,
   ⟨(some 26), .bin .neq (.t 22) (.t 25), (some (some 19, false)), 71424, 23, []⟩,
   ⟨(some 27), .pick (.t 19) (.k (.bool true)) (.t 26), none, 71680, 24, []⟩])
 (.cond (.t 27)
  (.seq (.reg [⟨(some 2), .mv (.k (.bool false)), none, 131072, 0, []⟩])
  (.ret))
  (.skip)))
 (.seq (.reg [⟨(some 28), .faddr 4 (.t 1), none, 196608, 0, []⟩,
   ⟨(some 29), .load 1 false (.t 28), none, 196864, 1, []⟩,
   ⟨(some 30), .mkf 98 [(.t 1)], none, 197120, 2, []⟩,
   ⟨(some 31), .call 97 [(.t 29), (.t 30)] true, none, 197376, 3, []⟩,
   ⟨(some 32), .not (.t 31), none, 197632, 4, []⟩,
   ⟨(some 2), .mv (.t 32), none, 197888, 5, []⟩])
 (.ret)))⟩
/-- loop.example/g00849/impl.WideWhole -/
def F50 : F := ⟨1, 22, [.t 2],
 .seq (.reg [⟨(some 1), .box (.t 0), none, 0, 0, []⟩,
   ⟨(some 2), .mv (.k (.bool false)), none, 256, 1, []⟩])
 (.seq (.reg [⟨(some 3), .load 5 true (.t 1), none, 65536, 0, []⟩,
   ⟨(some 4), .call 49 [(.t 3)] true, none, 65792, 1, []⟩,
   ⟨(some 5), .mv (.t 4), none, 66048, 2, []⟩,
   ⟨(some 6), .faddr 4 (.t 1), (some (some 5, true)), 66304, 3, []⟩,
   ⟨(some 7), .load 1 false (.t 6), (some (some 5, true)), 66560, 4, []⟩,
   ⟨(some 8), .faddr 0 (.t 1), (some (some 5, true)), 66816, 5, []⟩,
   ⟨(some 9), .load 2 true (.t 8), (some (some 5, true)), 67072, 6, []⟩,
   ⟨(some 10), .faddr 2 (.t 1), (some (some 5, true)), 67328, 7, []⟩,
   ⟨(some 11), .load 1 false (.t 10), (some (some 5, true)), 67584, 8, []⟩,
   ⟨(some 12), .load 5 true (.t 1), (some (some 5, true)), 67840, 9, []⟩,
   ⟨(some 13), .faddr 4 (.t 1), (some (some 5, true)), 68096, 10, []⟩,
   ⟨(some 14), .load 1 false (.t 13), (some (some 5, true)), 68352, 11, []⟩,
   ⟨(some 15), .faddr 3 (.t 1), (some (some 5, true)), 68608, 12, []⟩,
   ⟨(some 16), .load 1 false (.t 15), (some (some 5, true)), 68864, 13, []⟩,
   ⟨(some 17), .call 95 [(.t 12), (.t 14), (.k (.int .i64 0)), (.t 16)] true, (some (some 5, true)), 69120, 14, []⟩,
   ⟨(some 18), .call 90 [(.t 9), (.t 11), (.t 17)] false, (some (some 5, true)), 69376, 15, []⟩,
   ⟨(some 19), .field 4 1 false (.t 18), (some (some 5, true)), 69632, 16, []⟩,
   ⟨(some 20), .call 100 [(.t 7), (.t 19)] true, (some (some 5, true)), 69888, 17, []⟩,
   ⟨(some 21), .pick (.t 5) (.t 20) (.k (.bool false)), none, 70144, 18, []⟩,
   ⟨(some 2), .mv (.t 21), none, 70400, 19, []⟩])
 (.ret))⟩
/-- loop.example/g00849/impl.CellOf -/
def F51 : F := ⟨2, 28, [.t 4, .t 5, .t 6],
 .seq (.reg [⟨(some 2), .box (.t 0), none, 0, 0, []⟩,
   ⟨(some 4), .mv (.k (.int .i64 0)), none, 256, 1, []⟩,
   ⟨(some 5), .mv (.k (.int .i64 0)), none, 512, 2, []⟩,
   ⟨(some 6), .mv (.k (.int .i64 0)), none, 768, 3, []⟩])
 (.seq (.block 0 (.seq (.reg [⟨(some 10), .load 5 true (.t 2), none, 65536, 0, []⟩,
   ⟨(some 11), .call 49 [(.t 10)] true, none, 65792, 1, []⟩,
   ⟨(some 12), .not (.t 11), none, 66048, 2, []⟩,
   ⟨(some 9), .mv (.t 12), none, 66304, 3, []⟩])
 (.cond (.t 9)
  (.seq (.reg [⟨(some 4), .mv (.k (.int .i64 0)), none, 131072, 0, []⟩,
    ⟨(some 5), .mv (.k (.int .i64 0)), none, 131328, 1, []⟩,
    ⟨(some 6), .mv (.k (.int .i64 1)), none, 131584, 2, []⟩])
  (.ret))
  (.seq (.reg [⟨(some 14), .mv (.t 1), none, 196608, 0, []⟩,
    ⟨(some 15), .faddr 3 (.t 2), none, 196864, 1, []⟩,
    ⟨(some 16), .load 1 false (.t 15), none, 197120, 2, []⟩,
    ⟨(some 17), .bin .sub (.t 16) (.k (.int .i64 1)), none, 197376, 3, []⟩,
    ⟨(some 18), .call 86 [(.t 14), (.k (.int .i64 0)), (.t 17)] true, none, 197632, 4, []⟩,
    ⟨(some 19), .not (.t 18), none, 197888, 5, []⟩,
    ⟨(some 13), .mv (.t 19), none, 198144, 6, []⟩])
  (.cond (.t 13)
   (.seq (.reg [⟨(some 4), .mv (.k (.int .i64 0)), none, 262144, 0, []⟩,
     ⟨(some 5), .mv (.k (.int .i64 0)), none, 262400, 1, []⟩,
     ⟨(some 6), .mv (.k (.int .i64 2)), none, 262656, 2, []⟩])
   (.ret))
   (.skip))))))
 (.seq (.reg [⟨(some 21), .load 5 true (.t 2), none, 327680, 0, []⟩,
   ⟨(some 22), .mv (.t 1), none, 327936, 1, []⟩,
   ⟨(some 23), .call 101 [(.t 21), (.t 22)] true, none, 328192, 2, []⟩,
   ⟨(some 20), .mv (.t 23), none, 328448, 3, []⟩,
   ⟨(some 24), .ext (.t 20) 0, none, 328704, 4, []⟩,
   ⟨(some 25), .ext (.t 20) 1, none, 328960, 5, []⟩,
   ⟨(some 7), .mv (.t 24), none, 329216, 6, []⟩,
   ⟨(some 8), .mv (.t 25), none, 329472, 7, []⟩])
 (.seq (.reg [⟨(some 26), .mv (.t 7), none, 393216, 0, []⟩,
   ⟨(some 27), .mv (.t 8), none, 393472, 1, []⟩,
   ⟨(some 4), .mv (.t 26), none, 393728, 2, []⟩,
   ⟨(some 5), .mv (.t 27), none, 393984, 3, []⟩,
   ⟨(some 6), .mv (.k (.int .i64 0)), none, 394240, 4, []⟩])
 (.ret))))⟩
/-- loop.example/g00849/laws.szWide -/
def F52 : F := ⟨2, 12, [.t 4],
 .seq (.reg [⟨(some 2), .box (.t 0), none, 0, 0, []⟩,
   ⟨(some 4), .mv (.k (.int .i64 0)), none, 256, 1, []⟩])
 (.seq (.reg [⟨(some 5), .faddr 4 (.t 2), none, 65536, 0, []⟩,
   ⟨(some 6), .load 1 false (.t 5), none, 65792, 1, []⟩,
   ⟨(some 7), .mv (.t 1), none, 66048, 2, []⟩,
   ⟨(some 8), .call 102 [(.t 6), (.t 7)] true, none, 66304, 3, []⟩,
   ⟨(some 1), .mv (.t 8), none, 66560, 4, []⟩])
 (.seq (.seq (.reg [⟨(some 9), .mv (.t 1), none, 131072, 0, []⟩,
   ⟨(some 10), .bin .lss (.t 9) (.k (.int .i64 0)), none, 131328, 1, []⟩])
 (.cond (.t 10)
  (.seq (.reg [⟨(some 4), .mv (.k (.int .i64 (-1))), none, 196608, 0, []⟩])
  (.ret))
  (.skip)))
 (.seq (.reg [⟨(some 11), .mv (.t 1), none, 262144, 0, []⟩,
   ⟨(some 4), .mv (.t 11), none, 262400, 1, []⟩])
 (.ret))))⟩
/-- loop.example/g00849/laws.toWide -/
def F54 : F := ⟨1, 19, [.cell 2 5 true],
 .seq (.reg [⟨(some 1), .box (.t 0), none, 0, 0, []⟩,
   ⟨(some 2), .alloc [(.int .i64 0), (.int .i64 0), (.int .i64 0), (.int .i64 0), (.nil true 1)], none, 256, 1, []⟩])
 (.seq (.reg [⟨(some 3), .alloc [(.int .i64 0), (.int .i64 0), (.int .i64 0), (.int .i64 0), (.nil true 1)], none, 65536, 0, []⟩])
 (.seq (.reg [⟨(some 4), .faddr 0 (.t 1), none, 131072, 0, []⟩,
   ⟨(some 5), .load 2 true (.t 4), none, 131328, 1, []⟩,
   ⟨(some 6), .call 18 [(.t 5)] true, none, 131584, 2, []⟩,
   ⟨(some 7), .faddr 0 (.t 3), none, 131840, 3, []⟩,
   ⟨none, .store 2 (.t 7) (.t 6), none, 132096, 4, []⟩])
 (.seq (.reg [⟨(some 8), .faddr 2 (.t 1), none, 196608, 0, []⟩,
   ⟨(some 9), .load 1 false (.t 8), none, 196864, 1, []⟩,
   ⟨(some 10), .faddr 2 (.t 3), none, 197120, 2, []⟩,
   ⟨none, .store 1 (.t 10) (.t 9), none, 197376, 3, []⟩])
 (.seq (.reg [⟨(some 11), .faddr 3 (.t 1), none, 262144, 0, []⟩,
   ⟨(some 12), .load 1 false (.t 11), none, 262400, 1, []⟩,
   ⟨(some 13), .faddr 3 (.t 3), none, 262656, 2, []⟩,
   ⟨none, .store 1 (.t 13) (.t 12), none, 262912, 3, []⟩])
 (.seq (.reg [⟨(some 14), .faddr 4 (.t 1), none, 327680, 0, []⟩,
   ⟨(some 15), .load 1 false (.t 14), none, 327936, 1, []⟩,
   ⟨(some 16), .call 106 [(.t 15)] false, none, 328192, 2, []⟩,
   ⟨(some 17), .faddr 4 (.t 3), none, 328448, 3, []⟩,
   ⟨none, .store 1 (.t 17) (.t 16), none, 328704, 4, []⟩])
 (.seq (.reg [⟨(some 18), .load 5 true (.t 3), none, 393216, 0, []⟩,
   ⟨none, .store 5 (.t 2) (.t 18), none, 393472, 1, []⟩])
 (.ret)))))))⟩
/-- loop.example/g00849/impl.ReadLost -/
def F55 : F := ⟨4, 84, [.t 8, .t 9],
 .seq (.reg [⟨(some 4), .box (.t 0), none, 0, 0, []⟩,
   ⟨(some 8), .mv (.k (.str ByteArray.empty)), none, 256, 1, []⟩,
   ⟨(some 9), .mv (.k (.int .i64 0)), none, 512, 2, []⟩])
 (.seq (.block 0 (.seq (.reg [⟨(some 14), .load 5 true (.t 4), none, 65536, 0, []⟩,
   ⟨(some 15), .call 49 [(.t 14)] true, none, 65792, 1, []⟩,
   ⟨(some 16), .not (.t 15), none, 66048, 2, []⟩,
   ⟨(some 13), .mv (.t 16), none, 66304, 3, []⟩])
 (.cond (.t 13)
  (.seq (.reg [⟨(some 8), .mv (.k (.str ByteArray.empty)), none, 131072, 0, []⟩,
    ⟨(some 9), .mv (.k (.int .i64 1)), none, 131328, 1, []⟩])
  (.ret))
  (.seq (.reg [⟨(some 18), .mv (.t 1), none, 196608, 0, []⟩,
    ⟨(some 19), .call 107 [(.t 18)] true, none, 196864, 1, []⟩,
    ⟨(some 20), .not (.t 19), none, 197120, 2, []⟩,
    ⟨(some 21), .mv (.t 20), none, 197376, 3, []⟩,
    ⟨(some 22), .mv (.t 1), (some (some 21, false)), 197632, 4, []⟩,
    ⟨(some 23), .faddr 0 (.t 4), (some (some 21, false)), 197888, 5, []⟩,
    ⟨(some 24), .load 2 true (.t 23), (some (some 21, false)), 198144, 6, []⟩,
    ⟨(some 25), .call 96 [(.t 24)] true, (some (some 21, false)), 198400, 7, []⟩,
    ⟨(some 26), .bin .sub (.t 25) (.k (.int .i64 1)), (some (some 21, false)), 198656, 8, []⟩,
    ⟨(some 27), .call 108 [(.t 22), (.k (.int .i64 0)), (.t 26)] true, (some (some 21, false)), 198912, 9, []⟩,
    ⟨(some 28), .not (.t 27), (some (some 21, false)), 199168, 10, []⟩,
    ⟨(some 29), .pick (.t 21) (.k (.bool true)) (.t 28), none, 199424, 11, []⟩,
    ⟨(some 30), .mv (.t 29), none, 199680, 12, []⟩,
    ⟨(some 31), .mv (.t 2), (some (some 30, false)), 199936, 13, []⟩,
    ⟨(some 32), .faddr 3 (.t 4), (some (some 30, false)), 200192, 14, []⟩,
    ⟨(some 33), .load 1 false (.t 32), (some (some 30, false)), 200448, 15, []⟩,
    ⟨(some 34), .call 86 [(.t 31), (.k (.int .i64 0)), (.t 33)] true, (some (some 30, false)), 200704, 16, []⟩,
    ⟨(some 35), .not (.t 34), (some (some 30, false)), 200960, 17, []⟩,
    ⟨(some 36), .pick (.t 30) (.k (.bool true)) (.t 35), none, 201216, 18, []⟩,
    ⟨(some 37), .mv (.t 36), none, 201472, 19, []⟩,
    ⟨(some 38), .mv (.t 3), (some (some 37, false)), 201728, 20, []⟩,
    ⟨(some 39), .bin .lss (.t 38) (.k (.int .i64 0)), (some (some 37, false)), 201984, 21, []⟩,
    ⟨(some 40), .pick (.t 37) (.k (.bool true)) (.t 39), none, 202240, 22, []⟩,
    ⟨(some 17), .mv (.t 40), none, 202496, 23, []⟩])
  (.cond (.t 17)
   (.seq (.reg [⟨(some 8), .mv (.k (.str ByteArray.empty)), none, 262144, 0, []⟩,
     ⟨(some 9), .mv (.k (.int .i64 2)), none, 262400, 1, []⟩])
   (.ret))
   (.seq (.reg [⟨(some 42), .faddr 0 (.t 4), none, 327680, 0, []⟩,
     ⟨(some 43), .load 2 true (.t 42), none, 327936, 1, []⟩,
     ⟨(some 44), .call 96 [(.t 43)] true, none, 328192, 2, []⟩,
     ⟨(some 45), .mv (.t 1), none, 328448, 3, []⟩,
     ⟨(some 46), .len false (.t 45), none, 328704, 4, []⟩,
     ⟨(some 47), .bin .sub (.t 44) (.t 46), none, 328960, 5, []⟩,
     ⟨(some 48), .faddr 0 (.t 4), none, 329216, 6, []⟩,
     ⟨(some 49), .faddr 0 (.t 48), none, 329472, 7, []⟩,
     ⟨(some 50), .load 1 false (.t 49), none, 329728, 8, []⟩,
     ⟨(some 51), .bin .lss (.t 47) (.t 50), none, 329984, 9, []⟩,
     ⟨(some 41), .mv (.t 51), none, 330240, 10, []⟩])
   (.cond (.t 41)
    (.seq (.reg [⟨(some 8), .mv (.k (.str ByteArray.empty)), none, 393216, 0, []⟩,
      ⟨(some 9), .mv (.k (.int .i64 8)), none, 393472, 1, []⟩])
    (.ret))
    (.skip))))))))
 (.seq (.reg [⟨(some 10), .nil0 true 2, none, 458752, 0, []⟩])
 (.seq (.seq (.reg [⟨(some 52), .faddr 4 (.t 4), none, 524288, 0, []⟩,
   ⟨(some 53), .load 1 false (.t 52), none, 524544, 1, []⟩,
   ⟨(some 54), .len false (.t 53), none, 524800, 2, []⟩,
   ⟨(some 55), .mv (.k (.int .i64 0)), none, 525056, 3, []⟩])
 (.block 1 (.loop [1, 2, 3, 4, 10, 53, 54, 55] [0, 1, 2, 3, 4, 5, 458752, 918528, 918529, 918530, 918531]
  (.seq (.reg [⟨(some 56), .bin .lss (.t 55) (.t 54), none, 589824, 0, []⟩])
  (.seq (.cond (.t 56)
   (.skip)
   (.exit 1))
  (.seq (.block 2 (.seq (.reg [⟨(some 57), .mv (.t 55), none, 655360, 0, []⟩,
    ⟨(some 58), .iaddr 1 (.t 53) (.t 55), none, 655616, 1, []⟩,
    ⟨(some 59), .load 1 false (.t 58), none, 655872, 2, []⟩,
    ⟨(some 11), .mv (.t 57), none, 656128, 3, []⟩,
    ⟨(some 12), .mv (.t 59), none, 656384, 4, []⟩])
  (.seq (.reg [⟨(some 60), .mv (.t 1), none, 720896, 0, []⟩,
    ⟨(some 61), .mv (.t 11), none, 721152, 1, []⟩,
    ⟨(some 62), .call 109 [(.t 60), (.t 61)] true, none, 721408, 2, []⟩,
    ⟨(some 63), .not (.t 62), none, 721664, 3, []⟩])
  (.cond (.t 63)
   (.reg [⟨(some 64), .mv (.t 10), none, 786432, 0, []⟩,
     ⟨(some 65), .mv (.t 11), none, 786688, 1, []⟩,
     ⟨(some 66), .mv (.t 12), none, 786944, 2, []⟩,
     ⟨(some 67), .build [(.int .i64 0), (.str ByteArray.empty)] [(0, 1, (.t 65)), (1, 1, (.t 66))], none, 787200, 3, []⟩,
     ⟨(some 68), .bslice true 2 [(.int .i64 0), (.str ByteArray.empty)] 1 [(0, (.t 67))], none, 787456, 4, []⟩,
     ⟨(some 69), .app true 2 24 (.t 64) (.t 68), none, 787712, 5, []⟩,
     ⟨(some 10), .mv (.t 69), none, 787968, 6, []⟩])
   (.skip)))))
  (.reg [⟨(some 70), .bin .add (.t 55) (.k (.int .i64 1)), none, 851968, 0, []⟩,
    ⟨(some 55), .mv (.t 70), none, 852224, 1, []⟩])))))))
 (.seq (.reg [⟨(some 71), .load 5 true (.t 4), none, 917504, 0, []⟩,
   ⟨(some 72), .faddr 0 (.t 4), none, 917760, 1, []⟩,
   ⟨(some 73), .load 2 true (.t 72), none, 918016, 2, []⟩,
   ⟨(some 74), .mv (.t 10), none, 918272, 3, []⟩,
   ⟨(some 75), .call 75 [(.t 73), (.t 74)] false, none, 918528, 4, [(.t 4)]⟩,
   ⟨(some 76), .mv (.t 2), none, 918784, 5, []⟩,
   ⟨(some 77), .mv (.t 3), none, 919040, 6, []⟩,
   ⟨(some 78), .faddr 3 (.t 4), none, 919296, 7, []⟩,
   ⟨(some 79), .load 1 false (.t 78), none, 919552, 8, [(.t 4)]⟩,
   ⟨(some 80), .mv (.t 2), none, 919808, 9, []⟩,
   ⟨(some 81), .bin .sub (.t 79) (.t 80), none, 920064, 10, []⟩,
   ⟨(some 82), .min (.t 77) (.t 81), none, 920320, 11, []⟩,
   ⟨(some 83), .call 95 [(.t 71), (.t 75), (.t 76), (.t 82)] true, none, 920576, 12, []⟩,
   ⟨(some 8), .mv (.t 83), none, 920832, 13, []⟩,
   ⟨(some 9), .mv (.k (.int .i64 0)), none, 921088, 14, []⟩])
 (.ret)))))⟩
/-- loop.example/g00849/spec.ReadLost -/
def F56 : F := ⟨4, 54, [.t 8, .t 9],
 .seq (.reg [⟨(some 4), .box (.t 0), none, 0, 0, []⟩,
   ⟨(some 8), .mv (.k (.str ByteArray.empty)), none, 256, 1, []⟩,
   ⟨(some 9), .mv (.k (.int .i64 0)), none, 512, 2, []⟩])
 (.seq (.seq (.reg [⟨(some 12), .load 5 true (.t 4), none, 65536, 0, []⟩,
   ⟨(some 13), .call 103 [(.t 12)] true, none, 65792, 1, []⟩,
   ⟨(some 14), .not (.t 13), none, 66048, 2, []⟩])
 (.cond (.t 14)
  (.seq (.reg [⟨(some 8), .mv (.k (.str ByteArray.empty)), none, 131072, 0, []⟩,
    ⟨(some 9), .mv (.k (.int .i64 1)), none, 131328, 1, []⟩])
  (.ret))
  (.skip)))
 (.seq (.seq (.reg [⟨(some 15), .mv (.t 1), none, 196608, 0, []⟩,
   ⟨(some 16), .faddr 0 (.t 4), none, 196864, 1, []⟩,
   ⟨(some 17), .faddr 0 (.t 16), none, 197120, 2, []⟩,
   ⟨(some 18), .load 1 false (.t 17), none, 197376, 3, []⟩,
   ⟨(some 19), .faddr 0 (.t 4), none, 197632, 4, []⟩,
   ⟨(some 20), .faddr 1 (.t 19), none, 197888, 5, []⟩,
   ⟨(some 21), .load 1 false (.t 20), none, 198144, 6, []⟩,
   ⟨(some 22), .bin .add (.t 18) (.t 21), none, 198400, 7, []⟩,
   ⟨(some 23), .bin .sub (.t 22) (.k (.int .i64 1)), none, 198656, 8, []⟩,
   ⟨(some 24), .call 110 [(.t 15), (.k (.int .i64 0)), (.t 23)] true, none, 198912, 9, []⟩,
   ⟨(some 25), .not (.t 24), none, 199168, 10, []⟩,
   ⟨(some 26), .mv (.t 25), none, 199424, 11, []⟩,
   ⟨(some 27), .mv (.t 2), (some (some 26, false)), 199680, 12, []⟩,
   ⟨(some 28), .faddr 3 (.t 4), (some (some 26, false)), 199936, 13, []⟩,
   ⟨(some 29), .load 1 false (.t 28), (some (some 26, false)), 200192, 14, []⟩,
   ⟨(some 30), .call 77 [(.t 27), (.k (.int .i64 0)), (.t 29)] true, (some (some 26, false)), 200448, 15, []⟩,
   ⟨(some 31), .not (.t 30), (some (some 26, false)), 200704, 16, []⟩,
   ⟨(some 32), .pick (.t 26) (.k (.bool true)) (.t 31), none, 200960, 17, []⟩,
   ⟨(some 33), .mv (.t 32), none, 201216, 18, []⟩,
   ⟨(some 34), .mv (.t 3), (some (some 33, false)), 201472, 19, []⟩,
   ⟨(some 35), .bin .lss (.t 34) (.k (.int .i64 0)), (some (some 33, false)), 201728, 20, []⟩,
   ⟨(some 36), .pick (.t 33) (.k (.bool true)) (.t 35), none, 201984, 21, []⟩])
 (.cond (.t 36)
  (.seq (.reg [⟨(some 8), .mv (.k (.str ByteArray.empty)), none, 262144, 0, []⟩,
    ⟨(some 9), .mv (.k (.int .i64 2)), none, 262400, 1, []⟩])
  (.ret))
  (.skip)))
 (.seq (.reg [⟨(some 38), .load 5 true (.t 4), none, 327680, 0, []⟩,
   ⟨(some 39), .mv (.t 1), none, 327936, 1, []⟩,
   ⟨(some 40), .call 111 [(.t 38), (.t 39)] false, none, 328192, 2, []⟩,
   ⟨(some 37), .mv (.t 40), none, 328448, 3, []⟩,
   ⟨(some 41), .ext (.t 37) 0, none, 328704, 4, []⟩,
   ⟨(some 42), .ext (.t 37) 1, none, 328960, 5, []⟩,
   ⟨(some 10), .alloc [(.int .i64 0), (.int .i64 0), (.int .i64 0), (.int .i64 0), (.nil true 1)], none, 329216, 6, []⟩,
   ⟨none, .store 5 (.t 10) (.t 41), none, 329472, 7, []⟩,
   ⟨(some 11), .mv (.t 42), none, 329728, 8, []⟩])
 (.seq (.seq (.reg [⟨(some 43), .mv (.t 11), none, 393216, 0, []⟩,
   ⟨(some 44), .not (.t 43), none, 393472, 1, []⟩])
 (.cond (.t 44)
  (.seq (.reg [⟨(some 8), .mv (.k (.str ByteArray.empty)), none, 458752, 0, []⟩,
    ⟨(some 9), .mv (.k (.int .i64 8)), none, 459008, 1, []⟩])
  (.ret))
  (.skip)))
 (.seq (.reg [⟨(some 45), .load 5 true (.t 10), none, 524288, 0, []⟩,
   ⟨(some 46), .mv (.t 2), none, 524544, 1, []⟩,
   ⟨(some 47), .mv (.t 3), none, 524800, 2, []⟩,
   ⟨(some 48), .faddr 3 (.t 4), none, 525056, 3, []⟩,
   ⟨(some 49), .load 1 false (.t 48), none, 525312, 4, []⟩,
   ⟨(some 50), .mv (.t 2), none, 525568, 5, []⟩,
   ⟨(some 51), .bin .sub (.t 49) (.t 50), none, 525824, 6, []⟩,
   ⟨(some 52), .call 112 [(.t 47), (.t 51)] true, none, 526080, 7, []⟩,
   ⟨(some 53), .call 105 [(.t 45), (.t 46), (.t 52)] true, none, 526336, 8, []⟩,
   ⟨(some 8), .mv (.t 53), none, 526592, 9, []⟩,
   ⟨(some 9), .mv (.k (.int .i64 0)), none, 526848, 10, []⟩])
 (.ret))))))⟩
/-- loop.example/g00849/laws.toInt64S -/
def F57 : F := ⟨1, 22, [.t 2],
 .seq (.reg [⟨(some 2), .nil0 true 1, none, 0, 0, []⟩])
 (.seq (.reg [⟨(some 5), .mv (.t 0), none, 65536, 0, []⟩,
   ⟨(some 6), .len false (.t 5), none, 65792, 1, []⟩,
   ⟨(some 7), .mksl true 1 8 [(.int .i64 0)] (.t 6) (.t 6), none, 66048, 2, []⟩,
   ⟨(some 3), .mv (.t 7), none, 66304, 3, []⟩])
 (.seq (.seq (.reg [⟨(some 4), .mv (.k (.int .i64 0)), none, 131072, 0, []⟩])
 (.block 0 (.loop [0, 3, 4] [0, 66048]
  (.seq (.seq (.reg [⟨(some 8), .mv (.t 4), none, 196608, 0, []⟩,
    ⟨(some 9), .mv (.t 0), none, 196864, 1, []⟩,
    ⟨(some 10), .len false (.t 9), none, 197120, 2, []⟩,
    ⟨(some 11), .bin .lss (.t 8) (.t 10), none, 197376, 3, []⟩])
  (.cond (.t 11)
   (.skip)
   (.exit 0)))
  (.seq (.block 1 (.reg [⟨(some 14), .mv (.t 3), none, 327680, 0, []⟩,
    ⟨(some 15), .mv (.t 4), none, 327936, 1, []⟩,
    ⟨(some 16), .mv (.t 0), none, 328192, 2, []⟩,
    ⟨(some 17), .mv (.t 4), none, 328448, 3, []⟩,
    ⟨(some 18), .iaddr 1 (.t 16) (.t 17), none, 328704, 4, []⟩,
    ⟨(some 19), .load 1 false (.t 18), none, 328960, 5, []⟩,
    ⟨(some 20), .iaddr 1 (.t 14) (.t 15), none, 329216, 6, []⟩,
    ⟨none, .store 1 (.t 20) (.t 19), none, 329472, 7, []⟩]))
  (.reg [⟨(some 12), .mv (.t 4), none, 262144, 0, []⟩,
    ⟨(some 13), .bin .add (.t 12) (.k (.int .i64 1)), none, 262400, 1, []⟩,
    ⟨(some 4), .mv (.t 13), none, 262656, 2, []⟩]))))))
 (.seq (.reg [⟨(some 21), .mv (.t 3), none, 393216, 0, []⟩,
   ⟨(some 2), .mv (.t 21), none, 393472, 1, []⟩])
 (.ret))))⟩
/-- loop.example/g00849/spec.A8Word -/
def F65 : F := ⟨1, 8, [.t 2],
 .seq (.reg [⟨(some 2), .mv (.k (.str ByteArray.empty)), none, 0, 0, []⟩])
 (.seq (.reg [⟨(some 4), .mv (.t 0), none, 65536, 0, []⟩,
   ⟨(some 5), .call 82 [(.t 4)] false, none, 65792, 1, []⟩,
   ⟨(some 3), .mv (.t 5), none, 66048, 2, []⟩])
 (.seq (.reg [⟨(some 6), .mv (.t 3), none, 131072, 0, []⟩,
   ⟨(some 7), .call 122 [(.t 6), (.k (.int .i64 40))] true, none, 131328, 1, []⟩,
   ⟨(some 2), .mv (.t 7), none, 131584, 2, []⟩])
 (.ret)))⟩
/-- loop.example/g00849/laws.a8Mix -/
def F66 : F := ⟨2, 10, [.t 4],
 .seq (.reg [⟨(some 4), .nil0 true 1, none, 0, 0, []⟩])
 (.seq (.reg [⟨(some 5), .mv (.t 0), none, 65536, 0, []⟩,
   ⟨(some 6), .conv .u8 (.t 5), none, 65792, 1, []⟩,
   ⟨(some 7), .bslice true 1 [(.int .u8 0)] 1 [(0, (.t 6))], none, 66048, 2, []⟩,
   ⟨(some 8), .mv (.t 1), none, 66304, 3, []⟩,
   ⟨(some 9), .app true 1 1 (.t 7) (.t 8), none, 66560, 4, []⟩,
   ⟨(some 4), .mv (.t 9), none, 66816, 5, []⟩])
 (.ret))⟩
/-- (loop.example/g00849/impl.Code).recovered -/
def F75 : F := ⟨2, 45, [.t 4],
 .seq (.reg [⟨(some 2), .box (.t 0), none, 0, 0, []⟩,
   ⟨(some 4), .nil0 true 1, none, 256, 1, []⟩])
 (.seq (.reg [⟨(some 5), .nil0 true 1, none, 65536, 0, []⟩])
 (.seq (.reg [⟨(some 6), .nil0 true 1, none, 131072, 0, []⟩])
 (.seq (.seq (.reg [⟨(some 11), .mv (.t 1), none, 196608, 0, []⟩,
   ⟨(some 12), .faddr 0 (.t 2), none, 196864, 1, []⟩,
   ⟨(some 13), .load 1 false (.t 12), none, 197120, 2, []⟩,
   ⟨(some 14), .cut 2 (.t 11) none (some (.t 13)), none, 197376, 3, []⟩,
   ⟨(some 15), .len false (.t 14), none, 197632, 4, []⟩,
   ⟨(some 16), .mv (.k (.int .i64 0)), none, 197888, 5, []⟩])
 (.block 0 (.loop [2, 5, 6, 14, 15, 16] [0, 1, 2, 3, 4, 5, 256, 65536, 131072, 590848, 590849, 590850, 590851, 591360, 591361, 591362, 591363, 591616, 591617, 591618, 591619, 592640, 592643, 592897, 592898, 592899, 655872, 655873, 655874, 655875]
  (.seq (.reg [⟨(some 17), .bin .lss (.t 16) (.t 15), none, 262144, 0, []⟩])
  (.seq (.cond (.t 17)
   (.skip)
   (.exit 0))
  (.seq (.block 1 (.seq (.reg [⟨(some 18), .iaddr 2 (.t 14) (.t 16), none, 327680, 0, []⟩,
    ⟨(some 19), .load 2 true (.t 18), none, 327936, 1, []⟩,
    ⟨(some 8), .alloc [(.int .i64 0), (.str ByteArray.empty)], none, 328192, 2, []⟩,
    ⟨none, .store 2 (.t 8) (.t 19), none, 328448, 3, []⟩])
  (.seq (.reg [⟨(some 20), .mv (.t 5), none, 393216, 0, []⟩,
    ⟨(some 21), .faddr 0 (.t 8), none, 393472, 1, []⟩,
    ⟨(some 22), .load 1 false (.t 21), none, 393728, 2, []⟩,
    ⟨(some 23), .bslice true 1 [(.int .i64 0)] 1 [(0, (.t 22))], none, 393984, 3, []⟩,
    ⟨(some 24), .app true 1 8 (.t 20) (.t 23), none, 394240, 4, []⟩,
    ⟨(some 5), .mv (.t 24), none, 394496, 5, []⟩])
  (.reg [⟨(some 25), .mv (.t 6), none, 458752, 0, []⟩,
    ⟨(some 26), .faddr 1 (.t 8), none, 459008, 1, []⟩,
    ⟨(some 27), .load 1 false (.t 26), none, 459264, 2, []⟩,
    ⟨(some 28), .bslice true 1 [(.str ByteArray.empty)] 1 [(0, (.t 27))], none, 459520, 3, []⟩,
    ⟨(some 29), .app true 1 16 (.t 25) (.t 28), none, 459776, 4, []⟩,
    ⟨(some 6), .mv (.t 29), none, 460032, 5, []⟩]))))
  (.reg [⟨(some 30), .bin .add (.t 16) (.k (.int .i64 1)), none, 524288, 0, []⟩,
    ⟨(some 16), .mv (.t 30), none, 524544, 1, []⟩])))))))
 (.seq (.reg [⟨(some 32), .faddr 0 (.t 2), none, 589824, 0, []⟩,
   ⟨(some 33), .load 1 false (.t 32), none, 590080, 1, []⟩,
   ⟨(some 34), .faddr 1 (.t 2), none, 590336, 2, []⟩,
   ⟨(some 35), .load 1 false (.t 34), none, 590592, 3, []⟩,
   ⟨(some 36), .call 129 [(.t 33), (.t 35)] false, none, 590848, 4, []⟩,
   ⟨(some 37), .mv (.t 5), none, 591104, 5, []⟩,
   ⟨(some 38), .call 130 [(.t 36), (.t 37)] false, none, 591360, 6, []⟩,
   ⟨(some 39), .call 128 [(.t 38)] false, none, 591616, 7, []⟩,
   ⟨(some 31), .mv (.t 39), none, 591872, 8, []⟩,
   ⟨(some 40), .ext (.t 31) 0, none, 592128, 9, []⟩,
   ⟨(some 41), .ext (.t 31) 1, none, 592384, 10, []⟩,
   ⟨(some 9), .alloc [(.int .i64 0), (.int .i64 0), (.nil true 1)], none, 592640, 11, []⟩,
   ⟨none, .store 3 (.t 9) (.t 40), none, 592896, 12, []⟩,
   ⟨(some 10), .mv (.t 41), none, 593152, 13, []⟩])
 (.seq (.reg [⟨(some 42), .load 3 true (.t 9), none, 655360, 0, []⟩,
   ⟨(some 43), .mv (.t 6), none, 655616, 1, []⟩,
   ⟨(some 44), .call 131 [(.t 42), (.t 43)] false, none, 655872, 2, []⟩,
   ⟨(some 4), .mv (.t 44), none, 656128, 3, []⟩])
 (.ret))))))⟩
/-- loop.example/g00849/spec.l00In -/
def F77 : F := ⟨3, 15, [.t 6],
 .seq (.reg [⟨(some 6), .mv (.k (.bool false)), none, 0, 0, []⟩])
 (.seq (.reg [⟨(some 7), .mv (.t 0), none, 65536, 0, []⟩,
   ⟨(some 8), .mv (.t 1), none, 65792, 1, []⟩,
   ⟨(some 9), .bin .geq (.t 7) (.t 8), none, 66048, 2, []⟩,
   ⟨(some 10), .mv (.t 9), none, 66304, 3, []⟩,
   ⟨(some 11), .mv (.t 0), (some (some 10, true)), 66560, 4, []⟩,
   ⟨(some 12), .mv (.t 2), (some (some 10, true)), 66816, 5, []⟩,
   ⟨(some 13), .bin .leq (.t 11) (.t 12), (some (some 10, true)), 67072, 6, []⟩,
   ⟨(some 14), .pick (.t 10) (.t 13) (.k (.bool false)), none, 67328, 7, []⟩,
   ⟨(some 6), .mv (.t 14), none, 67584, 8, []⟩])
 (.ret))⟩
/-- (loop.example/g00849/impl.Code).encoded -/
def F80 : F := ⟨2, 12, [.t 4],
 .seq (.reg [⟨(some 2), .box (.t 0), none, 0, 0, []⟩,
   ⟨(some 4), .nil0 true 1, none, 256, 1, []⟩])
 (.seq (.reg [⟨(some 5), .faddr 0 (.t 2), none, 65536, 0, []⟩,
   ⟨(some 6), .load 1 false (.t 5), none, 65792, 1, []⟩,
   ⟨(some 7), .faddr 1 (.t 2), none, 66048, 2, []⟩,
   ⟨(some 8), .load 1 false (.t 7), none, 66304, 3, []⟩,
   ⟨(some 9), .call 129 [(.t 6), (.t 8)] false, none, 66560, 4, []⟩,
   ⟨(some 10), .mv (.t 1), none, 66816, 5, []⟩,
   ⟨(some 11), .call 131 [(.t 9), (.t 10)] false, none, 67072, 6, []⟩,
   ⟨(some 4), .mv (.t 11), none, 67328, 7, []⟩])
 (.ret))⟩
/-- loop.example/g00849/spec.l00From -/
def F82 : F := ⟨1, 6, [.t 2],
 .seq (.reg [⟨(some 2), .mv (.k .undef), none, 0, 0, []⟩])
 (.seq (.reg [⟨(some 3), .mv (.t 0), none, 65536, 0, []⟩,
   ⟨(some 4), .build [(.nil true 1), (.int .i64 0), (.int .u64 0)] [(0, 1, (.t 3))], none, 65792, 1, []⟩,
   ⟨(some 5), .box (.t 4), none, 66048, 2, []⟩,
   ⟨(some 2), .mv (.t 5), none, 66304, 3, []⟩])
 (.ret))⟩
/-- loop.example/g00849/spec.l04Draw -/
def F83 : F := ⟨1, 9, [.cell 2 2 true],
 .seq (.reg [⟨(some 2), .alloc [(.int .i64 0), (.int .i64 0)], none, 0, 0, []⟩])
 (.seq (.reg [⟨(some 3), .mv (.t 0), none, 65536, 0, []⟩,
   ⟨(some 4), .call 134 [(.t 3), (.k (.int .i64 4))] true, none, 65792, 1, []⟩,
   ⟨(some 5), .bin .add (.k (.int .i64 1)) (.t 4), none, 66048, 2, []⟩,
   ⟨(some 6), .mv (.t 0), none, 66304, 3, []⟩,
   ⟨(some 7), .call 134 [(.t 6), (.k (.int .i64 4))] true, none, 66560, 4, []⟩,
   ⟨(some 8), .build [(.int .i64 0), (.int .i64 0)] [(0, 1, (.t 5)), (1, 1, (.t 7))], none, 66816, 5, []⟩,
   ⟨none, .store 2 (.t 2) (.t 8), none, 67072, 6, []⟩])
 (.ret))⟩
/-- loop.example/g00849/impl.CodeOk -/
def F84 : F := ⟨1, 11, [.t 2],
 .seq (.reg [⟨(some 1), .box (.t 0), none, 0, 0, []⟩,
   ⟨(some 2), .mv (.k (.bool false)), none, 256, 1, []⟩])
 (.seq (.reg [⟨(some 3), .faddr 0 (.t 1), none, 65536, 0, []⟩,
   ⟨(some 4), .load 1 false (.t 3), none, 65792, 1, []⟩,
   ⟨(some 5), .call 86 [(.t 4), (.k (.int .i64 1)), (.k (.int .i64 4))] true, none, 66048, 2, []⟩,
   ⟨(some 6), .mv (.t 5), none, 66304, 3, []⟩,
   ⟨(some 7), .faddr 1 (.t 1), (some (some 6, true)), 66560, 4, []⟩,
   ⟨(some 8), .load 1 false (.t 7), (some (some 6, true)), 66816, 5, []⟩,
   ⟨(some 9), .call 86 [(.t 8), (.k (.int .i64 0)), (.k (.int .i64 3))] true, (some (some 6, true)), 67072, 6, []⟩,
   ⟨(some 10), .pick (.t 6) (.t 9) (.k (.bool false)), none, 67328, 7, []⟩,
   ⟨(some 2), .mv (.t 10), none, 67584, 8, []⟩])
 (.ret))⟩
/-- loop.example/g00849/impl.between -/
def F86 : F := ⟨3, 15, [.t 6],
 .seq (.reg [⟨(some 6), .mv (.k (.bool false)), none, 0, 0, []⟩])
 (.seq (.reg [⟨(some 7), .mv (.t 0), none, 65536, 0, []⟩,
   ⟨(some 8), .mv (.t 1), none, 65792, 1, []⟩,
   ⟨(some 9), .bin .geq (.t 7) (.t 8), none, 66048, 2, []⟩,
   ⟨(some 10), .mv (.t 9), none, 66304, 3, []⟩,
   ⟨(some 11), .mv (.t 0), (some (some 10, true)), 66560, 4, []⟩,
   ⟨(some 12), .mv (.t 2), (some (some 10, true)), 66816, 5, []⟩,
   ⟨(some 13), .bin .leq (.t 11) (.t 12), (some (some 10, true)), 67072, 6, []⟩,
   ⟨(some 14), .pick (.t 10) (.t 13) (.k (.bool false)), none, 67328, 7, []⟩,
   ⟨(some 6), .mv (.t 14), none, 67584, 8, []⟩])
 (.ret))⟩
/-- loop.example/g00849/spec.l04Code -/
def F88 : F := ⟨1, 11, [.t 2],
 .seq (.reg [⟨(some 1), .box (.t 0), none, 0, 0, []⟩,
   ⟨(some 2), .mv (.k (.bool false)), none, 256, 1, []⟩])
 (.seq (.reg [⟨(some 3), .faddr 0 (.t 1), none, 65536, 0, []⟩,
   ⟨(some 4), .load 1 false (.t 3), none, 65792, 1, []⟩,
   ⟨(some 5), .call 77 [(.t 4), (.k (.int .i64 1)), (.k (.int .i64 4))] true, none, 66048, 2, []⟩,
   ⟨(some 6), .mv (.t 5), none, 66304, 3, []⟩,
   ⟨(some 7), .faddr 1 (.t 1), (some (some 6, true)), 66560, 4, []⟩,
   ⟨(some 8), .load 1 false (.t 7), (some (some 6, true)), 66816, 5, []⟩,
   ⟨(some 9), .call 77 [(.t 8), (.k (.int .i64 0)), (.k (.int .i64 3))] true, (some (some 6, true)), 67072, 6, []⟩,
   ⟨(some 10), .pick (.t 6) (.t 9) (.k (.bool false)), none, 67328, 7, []⟩,
   ⟨(some 2), .mv (.t 10), none, 67584, 8, []⟩])
 (.ret))⟩
/-- loop.example/g00849/impl.wideOf -/
def F90 : F := ⟨3, 74, [.cell 6 5 true],
 .seq (.reg [⟨(some 3), .box (.t 0), none, 0, 0, []⟩,
   ⟨(some 6), .alloc [(.int .i64 0), (.int .i64 0), (.int .i64 0), (.int .i64 0), (.nil true 1)], none, 256, 1, []⟩])
 (.seq (.reg [⟨(some 16), .load 2 true (.t 3), none, 65536, 0, []⟩,
   ⟨(some 17), .mv (.t 1), none, 65792, 1, []⟩,
   ⟨(some 18), .mv (.t 2), none, 66048, 2, []⟩,
   ⟨(some 19), .len true (.t 18), none, 66304, 3, []⟩,
   ⟨(some 20), .build [(.int .i64 0), (.int .i64 0), (.int .i64 0), (.int .i64 0), (.nil true 1)] [(0, 2, (.t 16)), (2, 1, (.t 17)), (3, 1, (.t 19))], none, 66560, 4, []⟩,
   ⟨(some 7), .alloc [(.int .i64 0), (.int .i64 0), (.int .i64 0), (.int .i64 0), (.nil true 1)], none, 66816, 5, []⟩,
   ⟨none, .stm 5 (.t 7) (.t 20), none, 67072, 6, []⟩])
 (.seq (.reg [⟨(some 21), .faddr 0 (.t 3), none, 131072, 0, []⟩,
   ⟨(some 22), .load 1 false (.t 21), none, 131328, 1, []⟩,
   ⟨(some 23), .mksl false 1 24 [(.nil true 1)] (.t 22) (.t 22), none, 131584, 2, []⟩,
   ⟨(some 8), .mv (.t 23), none, 131840, 3, []⟩])
 (.seq (.seq (.reg [⟨(some 24), .mv (.t 8), none, 196608, 0, []⟩,
   ⟨(some 25), .len false (.t 24), none, 196864, 1, []⟩,
   ⟨(some 26), .mv (.k (.int .i64 0)), none, 197120, 2, []⟩])
 (.block 0 (.loop [2, 3, 6, 7, 8, 25, 26] [0, 1, 2, 3, 4, 5, 256, 261, 66816, 66821, 67073, 67074, 67075, 67076, 67077, 131584, 788737, 917504, 1180416, 1180672, 1311232, 1311233, 1311234, 1311235, 1311745, 1376513, 1376514, 1376515, 1376516, 1376517]
  (.seq (.reg [⟨(some 27), .bin .lss (.t 26) (.t 25), none, 262144, 0, []⟩])
  (.seq (.cond (.t 27)
   (.skip)
   (.exit 0))
  (.seq (.block 1 (.seq (.reg [⟨(some 28), .mv (.t 26), none, 327680, 0, []⟩,
    ⟨(some 9), .mv (.t 28), none, 327936, 1, []⟩])
  (.reg [⟨(some 29), .mv (.t 8), none, 393216, 0, []⟩,
    ⟨(some 30), .mv (.t 9), none, 393472, 1, []⟩,
    ⟨(some 31), .load 5 true (.t 7), none, 393728, 2, []⟩,
    ⟨(some 32), .call 99 [(.t 31)] true, none, 393984, 3, []⟩,
    ⟨(some 33), .mksl true 1 1 [(.int .u8 0)] (.t 32) (.t 32), none, 394240, 4, []⟩,
    ⟨(some 34), .iaddr 1 (.t 29) (.t 30), none, 394496, 5, []⟩,
    ⟨none, .stm 1 (.t 34) (.t 33), none, 394752, 6, []⟩])))
  (.reg [⟨(some 35), .bin .add (.t 26) (.k (.int .i64 1)), none, 458752, 0, []⟩,
    ⟨(some 26), .mv (.t 35), none, 459008, 1, []⟩])))))))
 (.seq (.seq (.reg [⟨(some 36), .faddr 3 (.t 7), none, 524288, 0, []⟩,
   ⟨(some 37), .load 1 false (.t 36), none, 524544, 1, []⟩,
   ⟨(some 38), .mv (.k (.int .i64 0)), none, 524800, 2, []⟩])
 (.block 2 (.loop [2, 3, 6, 7, 8, 37, 38] [0, 1, 2, 3, 4, 5, 256, 261, 66816, 66821, 67073, 67074, 67075, 67076, 67077, 131584, 394240, 394753, 917504, 1180416, 1180672, 1311232, 1311233, 1311234, 1311235, 1311745, 1376513, 1376514, 1376515, 1376516, 1376517]
  (.seq (.reg [⟨(some 39), .bin .lss (.t 38) (.t 37), none, 589824, 0, []⟩])
  (.seq (.cond (.t 39)
   (.skip)
   (.exit 2))
  (.seq (.block 3 (.seq (.reg [⟨(some 40), .mv (.t 38), none, 655360, 0, []⟩,
    ⟨(some 10), .mv (.t 40), none, 655616, 1, []⟩])
  (.seq (.reg [⟨(some 42), .load 5 true (.t 7), none, 720896, 0, []⟩,
    ⟨(some 43), .mv (.t 10), none, 721152, 1, []⟩,
    ⟨(some 44), .call 101 [(.t 42), (.t 43)] true, none, 721408, 2, []⟩,
    ⟨(some 41), .mv (.t 44), none, 721664, 3, []⟩,
    ⟨(some 45), .ext (.t 41) 0, none, 721920, 4, []⟩,
    ⟨(some 46), .ext (.t 41) 1, none, 722176, 5, []⟩,
    ⟨(some 11), .mv (.t 45), none, 722432, 6, []⟩,
    ⟨(some 12), .mv (.t 46), none, 722688, 7, []⟩])
  (.reg [⟨(some 47), .mv (.t 8), none, 786432, 0, []⟩,
    ⟨(some 48), .mv (.t 11), none, 786688, 1, []⟩,
    ⟨(some 49), .iaddr 1 (.t 47) (.t 48), none, 786944, 2, []⟩,
    ⟨(some 50), .load 1 false (.t 49), none, 787200, 3, []⟩,
    ⟨(some 51), .mv (.t 12), none, 787456, 4, []⟩,
    ⟨(some 52), .mv (.t 2), none, 787712, 5, []⟩,
    ⟨(some 53), .mv (.t 10), none, 787968, 6, []⟩,
    ⟨(some 54), .idx (.t 52) (.t 53), none, 788224, 7, []⟩,
    ⟨(some 55), .iaddr 1 (.t 50) (.t 51), none, 788480, 8, []⟩,
    ⟨none, .stm 1 (.t 55) (.t 54), none, 788736, 9, []⟩]))))
  (.reg [⟨(some 56), .bin .add (.t 38) (.k (.int .i64 1)), none, 851968, 0, []⟩,
    ⟨(some 38), .mv (.t 56), none, 852224, 1, []⟩])))))))
 (.seq (.reg [⟨(some 13), .nil0 true 1, none, 917504, 0, []⟩])
 (.seq (.seq (.reg [⟨(some 57), .mv (.t 8), none, 983040, 0, []⟩,
   ⟨(some 58), .len false (.t 57), none, 983296, 1, []⟩,
   ⟨(some 59), .mv (.k (.int .i64 0)), none, 983552, 2, []⟩])
 (.block 4 (.loop [3, 6, 7, 13, 57, 58, 59] [0, 1, 2, 3, 4, 5, 256, 261, 66816, 66821, 67073, 67074, 67075, 67076, 67077, 131584, 394240, 394753, 788737, 917504, 1311232, 1311233, 1311234, 1311235, 1311745, 1376513, 1376514, 1376515, 1376516, 1376517]
  (.seq (.reg [⟨(some 60), .bin .lss (.t 59) (.t 58), none, 1048576, 0, []⟩])
  (.seq (.cond (.t 60)
   (.skip)
   (.exit 4))
  (.seq (.block 5 (.seq (.reg [⟨(some 61), .iaddr 1 (.t 57) (.t 59), none, 1114112, 0, []⟩,
    ⟨(some 62), .load 1 false (.t 61), none, 1114368, 1, []⟩,
    ⟨(some 15), .mv (.t 62), none, 1114624, 2, []⟩])
  (.reg [⟨(some 63), .mv (.t 13), none, 1179648, 0, []⟩,
    ⟨(some 64), .mv (.t 15), none, 1179904, 1, []⟩,
    ⟨(some 65), .b2s (.t 64), none, 1180160, 2, []⟩,
    ⟨(some 66), .bslice true 1 [(.str ByteArray.empty)] 1 [(0, (.t 65))], none, 1180416, 3, []⟩,
    ⟨(some 67), .app true 1 16 (.t 63) (.t 66), none, 1180672, 4, []⟩,
    ⟨(some 13), .mv (.t 67), none, 1180928, 5, []⟩])))
  (.reg [⟨(some 68), .bin .add (.t 59) (.k (.int .i64 1)), none, 1245184, 0, []⟩,
    ⟨(some 59), .mv (.t 68), none, 1245440, 1, []⟩])))))))
 (.seq (.reg [⟨(some 69), .load 2 true (.t 3), none, 1310720, 0, []⟩,
   ⟨(some 70), .mv (.t 13), none, 1310976, 1, []⟩,
   ⟨(some 71), .call 80 [(.t 69), (.t 70)] false, none, 1311232, 2, []⟩,
   ⟨(some 72), .faddr 4 (.t 7), none, 1311488, 3, []⟩,
   ⟨none, .stm 1 (.t 72) (.t 71), none, 1311744, 4, []⟩])
 (.seq (.reg [⟨(some 73), .load 5 true (.t 7), none, 1376256, 0, []⟩,
   ⟨none, .stm 5 (.t 6) (.t 73), none, 1376512, 1, []⟩])
 (.ret)))))))))⟩
/-- loop.example/g00849/laws.eqCode -/
def F91 : F := ⟨2, 15, [.t 4],
 .seq (.reg [⟨(some 2), .box (.t 0), none, 0, 0, []⟩,
   ⟨(some 3), .box (.t 1), none, 256, 1, []⟩,
   ⟨(some 4), .mv (.k (.bool false)), none, 512, 2, []⟩])
 (.seq (.seq (.reg [⟨(some 5), .faddr 0 (.t 2), none, 65536, 0, []⟩,
   ⟨(some 6), .load 1 false (.t 5), none, 65792, 1, []⟩,
   ⟨(some 7), .faddr 0 (.t 3), none, 66048, 2, []⟩,
   ⟨(some 8), .load 1 false (.t 7), none, 66304, 3, []⟩,
   ⟨(some 9), .bin .neq (.t 6) (.t 8), none, 66560, 4, []⟩])
 (.cond (.t 9)
  (.seq (.reg [⟨(some 4), .mv (.k (.bool false)), none, 131072, 0, []⟩])
  (.ret))
  (.skip)))
 (.seq (.seq (.reg [⟨(some 10), .faddr 1 (.t 2), none, 196608, 0, []⟩,
   ⟨(some 11), .load 1 false (.t 10), none, 196864, 1, []⟩,
   ⟨(some 12), .faddr 1 (.t 3), none, 197120, 2, []⟩,
   ⟨(some 13), .load 1 false (.t 12), none, 197376, 3, []⟩,
   ⟨(some 14), .bin .neq (.t 11) (.t 13), none, 197632, 4, []⟩])
 (.cond (.t 14)
  (.seq (.reg [⟨(some 4), .mv (.k (.bool false)), none, 262144, 0, []⟩])
  (.ret))
  (.skip)))
 (.seq (.reg [⟨(some 4), .mv (.k (.bool true)), none, 327680, 0, []⟩])
 (.ret))))⟩
/-- loop.example/g00849/laws.eqStringS -/
def F92 : F := ⟨2, 26, [.t 4],
 .seq (.reg [⟨(some 4), .mv (.k (.bool false)), none, 0, 0, []⟩])
 (.seq (.seq (.reg [⟨(some 6), .mv (.t 0), none, 65536, 0, []⟩,
   ⟨(some 7), .len false (.t 6), none, 65792, 1, []⟩,
   ⟨(some 8), .mv (.t 1), none, 66048, 2, []⟩,
   ⟨(some 9), .len false (.t 8), none, 66304, 3, []⟩,
   ⟨(some 10), .bin .neq (.t 7) (.t 9), none, 66560, 4, []⟩])
 (.cond (.t 10)
  (.seq (.reg [⟨(some 4), .mv (.k (.bool false)), none, 131072, 0, []⟩])
  (.ret))
  (.skip)))
 (.seq (.seq (.reg [⟨(some 5), .mv (.k (.int .i64 0)), none, 196608, 0, []⟩])
 (.block 0 (.loop [0, 1, 5] []
  (.seq (.seq (.reg [⟨(some 11), .mv (.t 5), none, 262144, 0, []⟩,
    ⟨(some 12), .mv (.t 0), none, 262400, 1, []⟩,
    ⟨(some 13), .len false (.t 12), none, 262656, 2, []⟩,
    ⟨(some 14), .bin .lss (.t 11) (.t 13), none, 262912, 3, []⟩])
  (.cond (.t 14)
   (.skip)
   (.exit 0)))
  (.seq (.block 1 (.seq (.reg [⟨(some 17), .mv (.t 0), none, 393216, 0, []⟩,
    ⟨(some 18), .mv (.t 5), none, 393472, 1, []⟩,
    ⟨(some 19), .iaddr 1 (.t 17) (.t 18), none, 393728, 2, []⟩,
    ⟨(some 20), .load 1 false (.t 19), none, 393984, 3, []⟩,
    ⟨(some 21), .mv (.t 1), none, 394240, 4, []⟩,
    ⟨(some 22), .mv (.t 5), none, 394496, 5, []⟩,
    ⟨(some 23), .iaddr 1 (.t 21) (.t 22), none, 394752, 6, []⟩,
    ⟨(some 24), .load 1 false (.t 23), none, 395008, 7, []⟩,
    ⟨(some 25), .bin .neq (.t 20) (.t 24), none, 395264, 8, []⟩])
  (.cond (.t 25)
   (.seq (.reg [⟨(some 4), .mv (.k (.bool false)), none, 458752, 0, []⟩])
   (.ret))
   (.skip))))
  (.reg [⟨(some 15), .mv (.t 5), none, 327680, 0, []⟩,
    ⟨(some 16), .bin .add (.t 15) (.k (.int .i64 1)), none, 327936, 1, []⟩,
    ⟨(some 5), .mv (.t 16), none, 328192, 2, []⟩]))))))
 (.seq (.reg [⟨(some 4), .mv (.k (.bool true)), none, 524288, 0, []⟩])
 (.ret))))⟩
/-- (loop.example/g00849/impl.Code).size -/
def F96 : F := ⟨1, 8, [.t 2],
 .seq (.reg [⟨(some 1), .box (.t 0), none, 0, 0, []⟩,
   ⟨(some 2), .mv (.k (.int .i64 0)), none, 256, 1, []⟩])
 (.seq (.reg [⟨(some 3), .faddr 0 (.t 1), none, 65536, 0, []⟩,
   ⟨(some 4), .load 1 false (.t 3), none, 65792, 1, []⟩,
   ⟨(some 5), .faddr 1 (.t 1), none, 66048, 2, []⟩,
   ⟨(some 6), .load 1 false (.t 5), none, 66304, 3, []⟩,
   ⟨(some 7), .bin .add (.t 4) (.t 6), none, 66560, 4, []⟩,
   ⟨(some 2), .mv (.t 7), none, 66816, 5, []⟩])
 (.ret))⟩
/-- slices.ContainsFunc[[]string,string] -/
def F97 : F := ⟨2, 9, [.t 4],
 .seq (.reg [⟨(some 4), .mv (.k (.bool false)), none, 0, 0, []⟩])
 (.seq (.reg [⟨(some 5), .mv (.t 0), none, 65536, 0, []⟩,
   ⟨(some 6), .mv (.t 1), none, 65792, 1, []⟩,
   ⟨(some 7), .call 138 [(.t 5), (.t 6)] true, none, 66048, 2, []⟩,
   ⟨(some 8), .bin .geq (.t 7) (.k (.int .i64 0)), none, 66304, 3, []⟩,
   ⟨(some 4), .mv (.t 8), none, 66560, 4, []⟩])
 (.ret))⟩
/-- loop.example/g00849/impl.WideOk$1 -/
def F98 : F := ⟨2, 9, [.t 3],
 .seq (.reg [⟨(some 3), .mv (.k (.bool false)), none, 0, 0, []⟩])
 (.seq (.reg [⟨(some 4), .mv (.t 0), none, 65536, 0, []⟩,
   ⟨(some 5), .len true (.t 4), none, 65792, 1, []⟩,
   ⟨(some 6), .load 5 true (.t 1), none, 66048, 2, []⟩,
   ⟨(some 7), .call 99 [(.t 6)] true, none, 66304, 3, []⟩,
   ⟨(some 8), .bin .neq (.t 5) (.t 7), none, 66560, 4, []⟩,
   ⟨(some 3), .mv (.t 8), none, 66816, 5, []⟩])
 (.ret))⟩
/-- (loop.example/g00849/impl.Wide).length -/
def F99 : F := ⟨1, 15, [.t 2],
 .seq (.reg [⟨(some 1), .box (.t 0), none, 0, 0, []⟩,
   ⟨(some 2), .mv (.k (.int .i64 0)), none, 256, 1, []⟩])
 (.seq (.reg [⟨(some 3), .faddr 3 (.t 1), none, 65536, 0, []⟩,
   ⟨(some 4), .load 1 false (.t 3), none, 65792, 1, []⟩,
   ⟨(some 5), .load 5 true (.t 1), none, 66048, 2, []⟩,
   ⟨(some 6), .call 115 [(.t 5)] true, none, 66304, 3, []⟩,
   ⟨(some 7), .bin .add (.t 4) (.t 6), none, 66560, 4, []⟩,
   ⟨(some 8), .bin .sub (.t 7) (.k (.int .i64 1)), none, 66816, 5, []⟩,
   ⟨(some 9), .load 5 true (.t 1), none, 67072, 6, []⟩,
   ⟨(some 10), .call 115 [(.t 9)] true, none, 67328, 7, []⟩,
   ⟨(some 11), .bin .quo (.t 8) (.t 10), none, 67584, 8, []⟩,
   ⟨(some 12), .faddr 2 (.t 1), none, 67840, 9, []⟩,
   ⟨(some 13), .load 1 false (.t 12), none, 68096, 10, []⟩,
   ⟨(some 14), .bin .mul (.t 11) (.t 13), none, 68352, 11, []⟩,
   ⟨(some 2), .mv (.t 14), none, 68608, 12, []⟩])
 (.ret))⟩
/-- slices.Equal[[]string,string] -/
def F100 : F := ⟨2, 26, [.t 4],
 .seq (.reg [⟨(some 4), .mv (.k (.bool false)), none, 0, 0, []⟩])
 (.seq (.seq (.reg [⟨(some 6), .mv (.t 0), none, 65536, 0, []⟩,
   ⟨(some 7), .len false (.t 6), none, 65792, 1, []⟩,
   ⟨(some 8), .mv (.t 1), none, 66048, 2, []⟩,
   ⟨(some 9), .len false (.t 8), none, 66304, 3, []⟩,
   ⟨(some 10), .bin .neq (.t 7) (.t 9), none, 66560, 4, []⟩])
 (.cond (.t 10)
  (.seq (.reg [⟨(some 4), .mv (.k (.bool false)), none, 131072, 0, []⟩])
  (.ret))
  (.skip)))
 (.seq (.seq (.reg [⟨(some 11), .mv (.t 0), none, 196608, 0, []⟩,
   ⟨(some 12), .len false (.t 11), none, 196864, 1, []⟩,
   ⟨(some 13), .mv (.k (.int .i64 0)), none, 197120, 2, []⟩])
 (.block 0 (.loop [0, 1, 12, 13] []
  (.seq (.reg [⟨(some 14), .bin .lss (.t 13) (.t 12), none, 262144, 0, []⟩])
  (.seq (.cond (.t 14)
   (.skip)
   (.exit 0))
  (.seq (.block 1 (.seq (.reg [⟨(some 15), .mv (.t 13), none, 327680, 0, []⟩,
    ⟨(some 5), .mv (.t 15), none, 327936, 1, []⟩])
  (.seq (.reg [⟨(some 16), .mv (.t 0), none, 393216, 0, []⟩,
    ⟨(some 17), .mv (.t 5), none, 393472, 1, []⟩,
    ⟨(some 18), .iaddr 1 (.t 16) (.t 17), none, 393728, 2, []⟩,
    ⟨(some 19), .load 1 false (.t 18), none, 393984, 3, []⟩,
    ⟨(some 20), .mv (.t 1), none, 394240, 4, []⟩,
    ⟨(some 21), .mv (.t 5), none, 394496, 5, []⟩,
    ⟨(some 22), .iaddr 1 (.t 20) (.t 21), none, 394752, 6, []⟩,
    ⟨(some 23), .load 1 false (.t 22), none, 395008, 7, []⟩,
    ⟨(some 24), .bin .neq (.t 19) (.t 23), none, 395264, 8, []⟩])
  (.cond (.t 24)
   (.seq (.reg [⟨(some 4), .mv (.k (.bool false)), none, 458752, 0, []⟩])
   (.ret))
   (.skip)))))
  (.reg [⟨(some 25), .bin .add (.t 13) (.k (.int .i64 1)), none, 524288, 0, []⟩,
    ⟨(some 13), .mv (.t 25), none, 524544, 1, []⟩])))))))
 (.seq (.reg [⟨(some 4), .mv (.k (.bool true)), none, 589824, 0, []⟩])
 (.ret))))⟩
/-- (loop.example/g00849/impl.Wide).cell -/
def F101 : F := ⟨2, 25, [.t 4, .t 5],
 .seq (.reg [⟨(some 2), .box (.t 0), none, 0, 0, []⟩,
   ⟨(some 4), .mv (.k (.int .i64 0)), none, 256, 1, []⟩,
   ⟨(some 5), .mv (.k (.int .i64 0)), none, 512, 2, []⟩])
 (.seq (.reg [⟨(some 6), .mv (.t 1), none, 65536, 0, []⟩,
   ⟨(some 7), .load 5 true (.t 2), none, 65792, 1, []⟩,
   ⟨(some 8), .call 115 [(.t 7)] true, none, 66048, 2, []⟩,
   ⟨(some 9), .bin .rem (.t 6) (.t 8), none, 66304, 3, []⟩,
   ⟨(some 10), .faddr 2 (.t 2), none, 66560, 4, []⟩,
   ⟨(some 11), .load 1 false (.t 10), none, 66816, 5, []⟩,
   ⟨(some 12), .bin .quo (.t 9) (.t 11), none, 67072, 6, []⟩,
   ⟨(some 13), .mv (.t 1), none, 67328, 7, []⟩,
   ⟨(some 14), .load 5 true (.t 2), none, 67584, 8, []⟩,
   ⟨(some 15), .call 115 [(.t 14)] true, none, 67840, 9, []⟩,
   ⟨(some 16), .bin .quo (.t 13) (.t 15), none, 68096, 10, []⟩,
   ⟨(some 17), .faddr 2 (.t 2), none, 68352, 11, []⟩,
   ⟨(some 18), .load 1 false (.t 17), none, 68608, 12, []⟩,
   ⟨(some 19), .bin .mul (.t 16) (.t 18), none, 68864, 13, []⟩,
   ⟨(some 20), .mv (.t 1), none, 69120, 14, []⟩,
   ⟨(some 21), .faddr 2 (.t 2), none, 69376, 15, []⟩,
   ⟨(some 22), .load 1 false (.t 21), none, 69632, 16, []⟩,
   ⟨(some 23), .bin .rem (.t 20) (.t 22), none, 69888, 17, []⟩,
   ⟨(some 24), .bin .add (.t 19) (.t 23), none, 70144, 18, []⟩,
   ⟨(some 4), .mv (.t 12), none, 70400, 19, []⟩,
   ⟨(some 5), .mv (.t 24), none, 70656, 20, []⟩])
 (.ret))⟩
/-- loop.example/g00849/laws.szStringS -/
def F102 : F := ⟨2, 28, [.t 4],
 .seq (.reg [⟨(some 4), .mv (.k (.int .i64 0)), none, 0, 0, []⟩])
 (.seq (.reg [⟨(some 6), .mv (.t 1), none, 65536, 0, []⟩,
   ⟨(some 7), .mv (.t 0), none, 65792, 1, []⟩,
   ⟨(some 8), .len false (.t 7), none, 66048, 2, []⟩,
   ⟨(some 9), .bin .sub (.t 6) (.t 8), none, 66304, 3, []⟩,
   ⟨(some 1), .mv (.t 9), none, 66560, 4, []⟩])
 (.seq (.seq (.reg [⟨(some 10), .mv (.t 1), none, 131072, 0, []⟩,
   ⟨(some 11), .bin .lss (.t 10) (.k (.int .i64 0)), none, 131328, 1, []⟩])
 (.cond (.t 11)
  (.seq (.reg [⟨(some 4), .mv (.k (.int .i64 (-1))), none, 196608, 0, []⟩])
  (.ret))
  (.skip)))
 (.seq (.seq (.reg [⟨(some 5), .mv (.k (.int .i64 0)), none, 262144, 0, []⟩])
 (.block 0 (.loop [0, 1, 5] []
  (.seq (.seq (.reg [⟨(some 12), .mv (.t 5), none, 327680, 0, []⟩,
    ⟨(some 13), .mv (.t 0), none, 327936, 1, []⟩,
    ⟨(some 14), .len false (.t 13), none, 328192, 2, []⟩,
    ⟨(some 15), .bin .lss (.t 12) (.t 14), none, 328448, 3, []⟩])
  (.cond (.t 15)
   (.skip)
   (.exit 0)))
  (.seq (.block 1 (.seq (.reg [⟨(some 18), .mv (.t 1), none, 458752, 0, []⟩,
    ⟨(some 19), .mv (.t 0), none, 459008, 1, []⟩,
    ⟨(some 20), .mv (.t 5), none, 459264, 2, []⟩,
    ⟨(some 21), .iaddr 1 (.t 19) (.t 20), none, 459520, 3, []⟩,
    ⟨(some 22), .load 1 false (.t 21), none, 459776, 4, []⟩,
    ⟨(some 23), .len true (.t 22), none, 460032, 5, []⟩,
    ⟨(some 24), .bin .sub (.t 18) (.t 23), none, 460288, 6, []⟩,
    ⟨(some 1), .mv (.t 24), none, 460544, 7, []⟩])
  (.seq (.reg [⟨(some 25), .mv (.t 1), none, 524288, 0, []⟩,
    ⟨(some 26), .bin .lss (.t 25) (.k (.int .i64 0)), none, 524544, 1, []⟩])
  (.cond (.t 26)
   (.seq (.reg [⟨(some 4), .mv (.k (.int .i64 (-1))), none, 589824, 0, []⟩])
   (.ret))
   (.skip)))))
  (.reg [⟨(some 16), .mv (.t 5), none, 393216, 0, []⟩,
    ⟨(some 17), .bin .add (.t 16) (.k (.int .i64 1)), none, 393472, 1, []⟩,
    ⟨(some 5), .mv (.t 17), none, 393728, 2, []⟩]))))))
 (.seq (.reg [⟨(some 27), .mv (.t 1), none, 655360, 0, []⟩,
   ⟨(some 4), .mv (.t 27), none, 655616, 1, []⟩])
 (.ret)))))⟩
/-- loop.example/g00849/spec.l05OK -/
def F103 : F := ⟨1, 54, [.t 2],
 .seq (.reg [⟨(some 1), .box (.t 0), none, 0, 0, []⟩,
   ⟨(some 2), .mv (.k (.bool false)), none, 256, 1, []⟩])
 (.seq (.seq (.reg [⟨(some 4), .faddr 0 (.t 1), none, 65536, 0, []⟩,
   ⟨(some 5), .load 2 true (.t 4), none, 65792, 1, []⟩,
   ⟨(some 6), .call 88 [(.t 5)] true, none, 66048, 2, []⟩,
   ⟨(some 7), .not (.t 6), none, 66304, 3, []⟩,
   ⟨(some 8), .mv (.t 7), none, 66560, 4, []⟩,
   ⟨(some 9), .faddr 2 (.t 1), (some (some 8, false)), 66816, 5, []⟩,
   ⟨(some 10), .load 1 false (.t 9), (some (some 8, false)), 67072, 6, []⟩,
   ⟨(some 11), .call 77 [(.t 10), (.k (.int .i64 1)), (.k (.int .i64 8))] true, (some (some 8, false)), 67328, 7, []⟩,
   ⟨(some 12), .not (.t 11), (some (some 8, false)), 67584, 8, []⟩,
   ⟨(some 13), .pick (.t 8) (.k (.bool true)) (.t 12), none, 67840, 9, []⟩,
   ⟨(some 14), .mv (.t 13), none, 68096, 10, []⟩,
   ⟨(some 15), .faddr 3 (.t 1), (some (some 14, false)), 68352, 11, []⟩,
   ⟨(some 16), .load 1 false (.t 15), (some (some 14, false)), 68608, 12, []⟩,
   ⟨(some 17), .call 77 [(.t 16), (.k (.int .i64 0)), (.k (.int .i64 256))] true, (some (some 14, false)), 68864, 13, []⟩,
   ⟨(some 18), .not (.t 17), (some (some 14, false)), 69120, 14, []⟩,
   ⟨(some 19), .pick (.t 14) (.k (.bool true)) (.t 18), none, 69376, 15, []⟩,
   ⟨(some 20), .mv (.t 19), none, 69632, 16, []⟩,
   ⟨(some 21), .faddr 4 (.t 1), (some (some 20, false)), 69888, 17, []⟩,
   ⟨(some 22), .load 1 false (.t 21), (some (some 20, false)), 70144, 18, []⟩,
   ⟨(some 23), .len false (.t 22), (some (some 20, false)), 70400, 19, []⟩,
   ⟨(some 24), .faddr 0 (.t 1), (some (some 20, false)), 70656, 20, []⟩,
   ⟨(some 25), .faddr 0 (.t 24), (some (some 20, false)), 70912, 21, []⟩,
   ⟨(some 26), .load 1 false (.t 25), (some (some 20, false)), 71168, 22, []⟩,
   ⟨(some 27), .faddr 0 (.t 1), (some (some 20, false)), 71424, 23, []⟩,
   ⟨(some 28), .faddr 1 (.t 27), (some (some 20, false)), 71680, 24, []⟩,
   ⟨(some 29), .load 1 false (.t 28), (some (some 20, false)), 71936, 25, []⟩,
   ⟨(some 30), .bin .add (.t 26) (.t 29), (some (some 20, false)), 72192, 26, []⟩,
   ⟨(some 31), .bin .neq (.t 23) (.t 30), (some (some 20, false)), 72448, 27, []⟩,
   ⟨(some 32), .pick (.t 20) (.k (.bool true)) (.t 31), none, 72704, 28, []⟩])
 (.cond (.t 32)
  (.seq (.reg [⟨(some 2), .mv (.k (.bool false)), none, 131072, 0, []⟩])
  (.ret))
  (.skip)))
 (.seq (.seq (.reg [⟨(some 3), .mv (.k (.int .i64 0)), none, 196608, 0, []⟩])
 (.block 0 (.loop [1, 3] [0, 1, 2, 3, 4, 5]
  (.seq (.seq (.reg [⟨(some 33), .mv (.t 3), none, 262144, 0, []⟩,
    ⟨(some 34), .faddr 4 (.t 1), none, 262400, 1, []⟩,
    ⟨(some 35), .load 1 false (.t 34), none, 262656, 2, []⟩,
    ⟨(some 36), .len false (.t 35), none, 262912, 3, []⟩,
    ⟨(some 37), .bin .lss (.t 33) (.t 36), none, 263168, 4, []⟩])
  (.cond (.t 37)
   (.skip)
   (.exit 0)))
  (.seq (.block 1 (.seq (.reg [⟨(some 40), .faddr 4 (.t 1), none, 393216, 0, []⟩,
    ⟨(some 41), .load 1 false (.t 40), none, 393472, 1, []⟩,
    ⟨(some 42), .mv (.t 3), none, 393728, 2, []⟩,
    ⟨(some 43), .iaddr 1 (.t 41) (.t 42), none, 393984, 3, []⟩,
    ⟨(some 44), .load 1 false (.t 43), none, 394240, 4, []⟩,
    ⟨(some 45), .len true (.t 44), none, 394496, 5, []⟩,
    ⟨(some 46), .faddr 0 (.t 1), none, 394752, 6, []⟩,
    ⟨(some 47), .load 2 true (.t 46), none, 395008, 7, []⟩,
    ⟨(some 48), .faddr 2 (.t 1), none, 395264, 8, []⟩,
    ⟨(some 49), .load 1 false (.t 48), none, 395520, 9, []⟩,
    ⟨(some 50), .faddr 3 (.t 1), none, 395776, 10, []⟩,
    ⟨(some 51), .load 1 false (.t 50), none, 396032, 11, []⟩,
    ⟨(some 52), .call 136 [(.t 47), (.t 49), (.t 51)] true, none, 396288, 12, []⟩,
    ⟨(some 53), .bin .neq (.t 45) (.t 52), none, 396544, 13, []⟩])
  (.cond (.t 53)
   (.seq (.reg [⟨(some 2), .mv (.k (.bool false)), none, 458752, 0, []⟩])
   (.ret))
   (.skip))))
  (.reg [⟨(some 38), .mv (.t 3), none, 327680, 0, []⟩,
    ⟨(some 39), .bin .add (.t 38) (.k (.int .i64 1)), none, 327936, 1, []⟩,
    ⟨(some 3), .mv (.t 39), none, 328192, 2, []⟩]))))))
 (.seq (.reg [⟨(some 2), .mv (.k (.bool true)), none, 524288, 0, []⟩])
 (.ret))))⟩
/-- loop.example/g00849/spec.l05Read -/
def F105 : F := ⟨3, 38, [.t 6],
 .seq (.reg [⟨(some 3), .box (.t 0), none, 0, 0, []⟩,
   ⟨(some 6), .mv (.k (.str ByteArray.empty)), none, 256, 1, []⟩])
 (.seq (.reg [⟨(some 11), .bslice true 1 [(.int .u8 0)] 0 [], none, 65536, 0, []⟩,
   ⟨(some 7), .mv (.t 11), none, 65792, 1, []⟩])
 (.seq (.seq (.reg [⟨(some 12), .mv (.t 1), none, 131072, 0, []⟩,
   ⟨(some 8), .mv (.t 12), none, 131328, 1, []⟩])
 (.block 0 (.loop [1, 2, 3, 7, 8] [0, 1, 2, 3, 4, 5, 65536]
  (.seq (.seq (.reg [⟨(some 13), .mv (.t 8), none, 196608, 0, []⟩,
    ⟨(some 14), .mv (.t 1), none, 196864, 1, []⟩,
    ⟨(some 15), .mv (.t 2), none, 197120, 2, []⟩,
    ⟨(some 16), .bin .add (.t 14) (.t 15), none, 197376, 3, []⟩,
    ⟨(some 17), .bin .lss (.t 13) (.t 16), none, 197632, 4, []⟩])
  (.cond (.t 17)
   (.skip)
   (.exit 0)))
  (.seq (.block 1 (.seq (.reg [⟨(some 21), .load 5 true (.t 3), none, 327680, 0, []⟩,
    ⟨(some 22), .mv (.t 8), none, 327936, 1, []⟩,
    ⟨(some 23), .call 139 [(.t 21), (.t 22)] true, none, 328192, 2, []⟩,
    ⟨(some 20), .mv (.t 23), none, 328448, 3, []⟩,
    ⟨(some 24), .ext (.t 20) 0, none, 328704, 4, []⟩,
    ⟨(some 25), .ext (.t 20) 1, none, 328960, 5, []⟩,
    ⟨(some 9), .mv (.t 24), none, 329216, 6, []⟩,
    ⟨(some 10), .mv (.t 25), none, 329472, 7, []⟩])
  (.reg [⟨(some 26), .mv (.t 7), none, 393216, 0, []⟩,
    ⟨(some 27), .faddr 4 (.t 3), none, 393472, 1, []⟩,
    ⟨(some 28), .load 1 false (.t 27), none, 393728, 2, []⟩,
    ⟨(some 29), .mv (.t 9), none, 393984, 3, []⟩,
    ⟨(some 30), .iaddr 1 (.t 28) (.t 29), none, 394240, 4, []⟩,
    ⟨(some 31), .load 1 false (.t 30), none, 394496, 5, []⟩,
    ⟨(some 32), .mv (.t 10), none, 394752, 6, []⟩,
    ⟨(some 33), .idx (.t 31) (.t 32), none, 395008, 7, []⟩,
    ⟨(some 34), .bslice true 1 [(.int .u8 0)] 1 [(0, (.t 33))], none, 395264, 8, []⟩,
    ⟨(some 35), .app true 1 1 (.t 26) (.t 34), none, 395520, 9, []⟩,
    ⟨(some 7), .mv (.t 35), none, 395776, 10, []⟩])))
  (.reg [⟨(some 18), .mv (.t 8), none, 262144, 0, []⟩,
    ⟨(some 19), .bin .add (.t 18) (.k (.int .i64 1)), none, 262400, 1, []⟩,
    ⟨(some 8), .mv (.t 19), none, 262656, 2, []⟩]))))))
 (.seq (.reg [⟨(some 36), .mv (.t 7), none, 458752, 0, []⟩,
   ⟨(some 37), .b2s (.t 36), none, 459008, 1, []⟩,
   ⟨(some 6), .mv (.t 37), none, 459264, 2, []⟩])
 (.ret))))⟩
/-- loop.example/g00849/laws.toStringS -/
def F106 : F := ⟨1, 22, [.t 2],
 .seq (.reg [⟨(some 2), .nil0 true 1, none, 0, 0, []⟩])
 (.seq (.reg [⟨(some 5), .mv (.t 0), none, 65536, 0, []⟩,
   ⟨(some 6), .len false (.t 5), none, 65792, 1, []⟩,
   ⟨(some 7), .mksl true 1 16 [(.str ByteArray.empty)] (.t 6) (.t 6), none, 66048, 2, []⟩,
   ⟨(some 3), .mv (.t 7), none, 66304, 3, []⟩])
 (.seq (.seq (.reg [⟨(some 4), .mv (.k (.int .i64 0)), none, 131072, 0, []⟩])
 (.block 0 (.loop [0, 3, 4] [0, 66048]
  (.seq (.seq (.reg [⟨(some 8), .mv (.t 4), none, 196608, 0, []⟩,
    ⟨(some 9), .mv (.t 0), none, 196864, 1, []⟩,
    ⟨(some 10), .len false (.t 9), none, 197120, 2, []⟩,
    ⟨(some 11), .bin .lss (.t 8) (.t 10), none, 197376, 3, []⟩])
  (.cond (.t 11)
   (.skip)
   (.exit 0)))
  (.seq (.block 1 (.reg [⟨(some 14), .mv (.t 3), none, 327680, 0, []⟩,
    ⟨(some 15), .mv (.t 4), none, 327936, 1, []⟩,
    ⟨(some 16), .mv (.t 0), none, 328192, 2, []⟩,
    ⟨(some 17), .mv (.t 4), none, 328448, 3, []⟩,
    ⟨(some 18), .iaddr 1 (.t 16) (.t 17), none, 328704, 4, []⟩,
    ⟨(some 19), .load 1 false (.t 18), none, 328960, 5, []⟩,
    ⟨(some 20), .iaddr 1 (.t 14) (.t 15), none, 329216, 6, []⟩,
    ⟨none, .store 1 (.t 20) (.t 19), none, 329472, 7, []⟩]))
  (.reg [⟨(some 12), .mv (.t 4), none, 262144, 0, []⟩,
    ⟨(some 13), .bin .add (.t 12) (.k (.int .i64 1)), none, 262400, 1, []⟩,
    ⟨(some 4), .mv (.t 13), none, 262656, 2, []⟩]))))))
 (.seq (.reg [⟨(some 21), .mv (.t 3), none, 393216, 0, []⟩,
   ⟨(some 2), .mv (.t 21), none, 393472, 1, []⟩])
 (.ret))))⟩
/-- loop.example/g00849/impl.increasing -/
def F107 : F := ⟨1, 20, [.t 2],
 .seq (.reg [⟨(some 2), .mv (.k (.bool false)), none, 0, 0, []⟩])
 (.seq (.seq (.reg [⟨(some 3), .mv (.k (.int .i64 1)), none, 65536, 0, []⟩])
 (.block 0 (.loop [0, 3] []
  (.seq (.seq (.reg [⟨(some 4), .mv (.t 3), none, 131072, 0, []⟩,
    ⟨(some 5), .mv (.t 0), none, 131328, 1, []⟩,
    ⟨(some 6), .len false (.t 5), none, 131584, 2, []⟩,
    ⟨(some 7), .bin .lss (.t 4) (.t 6), none, 131840, 3, []⟩])
  (.cond (.t 7)
   (.skip)
   (.exit 0)))
  (.seq (.block 1 (.seq (.reg [⟨(some 10), .mv (.t 0), none, 262144, 0, []⟩,
    ⟨(some 11), .mv (.t 3), none, 262400, 1, []⟩,
    ⟨(some 12), .iaddr 1 (.t 10) (.t 11), none, 262656, 2, []⟩,
    ⟨(some 13), .load 1 false (.t 12), none, 262912, 3, []⟩,
    ⟨(some 14), .mv (.t 0), none, 263168, 4, []⟩,
    ⟨(some 15), .mv (.t 3), none, 263424, 5, []⟩,
    ⟨(some 16), .bin .sub (.t 15) (.k (.int .i64 1)), none, 263680, 6, []⟩,
    ⟨(some 17), .iaddr 1 (.t 14) (.t 16), none, 263936, 7, []⟩,
    ⟨(some 18), .load 1 false (.t 17), none, 264192, 8, []⟩,
    ⟨(some 19), .bin .leq (.t 13) (.t 18), none, 264448, 9, []⟩])
  (.cond (.t 19)
   (.seq (.reg [⟨(some 2), .mv (.k (.bool false)), none, 327680, 0, []⟩])
   (.ret))
   (.skip))))
  (.reg [⟨(some 8), .mv (.t 3), none, 196608, 0, []⟩,
    ⟨(some 9), .bin .add (.t 8) (.k (.int .i64 1)), none, 196864, 1, []⟩,
    ⟨(some 3), .mv (.t 9), none, 197120, 2, []⟩]))))))
 (.seq (.reg [⟨(some 2), .mv (.k (.bool true)), none, 393216, 0, []⟩])
 (.ret)))⟩
/-- loop.example/g00849/impl.allBetween -/
def F108 : F := ⟨3, 11, [.t 6],
 .seq (.reg [⟨(some 4), .box (.t 1), none, 0, 0, []⟩,
   ⟨(some 5), .box (.t 2), none, 256, 1, []⟩,
   ⟨(some 6), .mv (.k (.bool false)), none, 512, 2, []⟩])
 (.seq (.reg [⟨(some 7), .mv (.t 0), none, 65536, 0, []⟩,
   ⟨(some 8), .mkf 141 [(.t 4), (.t 5)], none, 65792, 1, []⟩,
   ⟨(some 9), .call 140 [(.t 7), (.t 8)] true, none, 66048, 2, []⟩,
   ⟨(some 10), .not (.t 9), none, 66304, 3, []⟩,
   ⟨(some 6), .mv (.t 10), none, 66560, 4, []⟩])
 (.ret))⟩
/-- slices.Contains[[]int64,int64] -/
def F109 : F := ⟨2, 9, [.t 4],
 .seq (.reg [⟨(some 4), .mv (.k (.bool false)), none, 0, 0, []⟩])
 (.seq (.reg [⟨(some 5), .mv (.t 0), none, 65536, 0, []⟩,
   ⟨(some 6), .mv (.t 1), none, 65792, 1, []⟩,
   ⟨(some 7), .call 142 [(.t 5), (.t 6)] true, none, 66048, 2, []⟩,
   ⟨(some 8), .bin .geq (.t 7) (.k (.int .i64 0)), none, 66304, 3, []⟩,
   ⟨(some 4), .mv (.t 8), none, 66560, 4, []⟩])
 (.ret))⟩
/-- loop.example/g00849/spec.l00Rises -/
def F110 : F := ⟨3, 38, [.t 6],
 .seq (.reg [⟨(some 6), .mv (.k (.bool false)), none, 0, 0, []⟩])
 (.seq (.seq (.reg [⟨(some 7), .mv (.k (.int .i64 0)), none, 65536, 0, []⟩])
 (.block 0 (.loop [0, 1, 2, 7] []
  (.seq (.seq (.reg [⟨(some 8), .mv (.t 7), none, 131072, 0, []⟩,
    ⟨(some 9), .mv (.t 0), none, 131328, 1, []⟩,
    ⟨(some 10), .len false (.t 9), none, 131584, 2, []⟩,
    ⟨(some 11), .bin .lss (.t 8) (.t 10), none, 131840, 3, []⟩])
  (.cond (.t 11)
   (.skip)
   (.exit 0)))
  (.seq (.block 1 (.seq (.reg [⟨(some 14), .mv (.t 0), none, 262144, 0, []⟩,
    ⟨(some 15), .mv (.t 7), none, 262400, 1, []⟩,
    ⟨(some 16), .iaddr 1 (.t 14) (.t 15), none, 262656, 2, []⟩,
    ⟨(some 17), .load 1 false (.t 16), none, 262912, 3, []⟩,
    ⟨(some 18), .mv (.t 1), none, 263168, 4, []⟩,
    ⟨(some 19), .mv (.t 2), none, 263424, 5, []⟩,
    ⟨(some 20), .call 77 [(.t 17), (.t 18), (.t 19)] true, none, 263680, 6, []⟩,
    ⟨(some 21), .not (.t 20), none, 263936, 7, []⟩,
    ⟨(some 22), .mv (.t 21), none, 264192, 8, []⟩,
    ⟨(some 23), .mv (.t 7), (some (some 22, false)), 264448, 9, []⟩,
    ⟨(some 24), .bin .gtr (.t 23) (.k (.int .i64 0)), (some (some 22, false)), 264704, 10, []⟩,
    ⟨(some 25), .mv (.t 24), (some (some 22, false)), 264960, 11, []⟩,
    ⟨(some 26), .mv (.t 0), (some (some 25, true)), 265216, 12, []⟩,
    ⟨(some 27), .mv (.t 7), (some (some 25, true)), 265472, 13, []⟩,
    ⟨(some 28), .bin .sub (.t 27) (.k (.int .i64 1)), (some (some 25, true)), 265728, 14, []⟩,
    ⟨(some 29), .iaddr 1 (.t 26) (.t 28), (some (some 25, true)), 265984, 15, []⟩,
    ⟨(some 30), .load 1 false (.t 29), (some (some 25, true)), 266240, 16, []⟩,
    ⟨(some 31), .mv (.t 0), (some (some 25, true)), 266496, 17, []⟩,
    ⟨(some 32), .mv (.t 7), (some (some 25, true)), 266752, 18, []⟩,
    ⟨(some 33), .iaddr 1 (.t 31) (.t 32), (some (some 25, true)), 267008, 19, []⟩,
    ⟨(some 34), .load 1 false (.t 33), (some (some 25, true)), 267264, 20, []⟩,
    ⟨(some 35), .bin .geq (.t 30) (.t 34), (some (some 25, true)), 267520, 21, []⟩,
    ⟨(some 36), .pick (.t 25) (.t 35) (.k (.bool false)), (some (some 22, false)), 267776, 22, []⟩,
    ⟨(some 37), .pick (.t 22) (.k (.bool true)) (.t 36), none, 268032, 23, []⟩])
  (.cond (.t 37)
   (.seq (.reg [⟨(some 6), .mv (.k (.bool false)), none, 327680, 0, []⟩])
   (.ret))
   (.skip))))
  (.reg [⟨(some 12), .mv (.t 7), none, 196608, 0, []⟩,
    ⟨(some 13), .bin .add (.t 12) (.k (.int .i64 1)), none, 196864, 1, []⟩,
    ⟨(some 7), .mv (.t 13), none, 197120, 2, []⟩]))))))
 (.seq (.reg [⟨(some 6), .mv (.k (.bool true)), none, 393216, 0, []⟩])
 (.ret)))⟩
/-- loop.example/g00849/spec.l05Found -/
def F111 : F := ⟨2, 43, [.cell 4 5 true, .t 5],
 .seq (.reg [⟨(some 2), .box (.t 0), none, 0, 0, []⟩,
   ⟨(some 4), .alloc [(.int .i64 0), (.int .i64 0), (.int .i64 0), (.int .i64 0), (.nil true 1)], none, 256, 1, []⟩,
   ⟨(some 5), .mv (.k (.bool false)), none, 512, 2, []⟩])
 (.seq (.reg [⟨(some 8), .bslice true 2 [(.int .i64 0), (.str ByteArray.empty)] 0 [], none, 65536, 0, []⟩,
   ⟨(some 6), .mv (.t 8), none, 65792, 1, []⟩])
 (.seq (.seq (.reg [⟨(some 7), .mv (.k (.int .i64 0)), none, 131072, 0, []⟩])
 (.block 0 (.loop [1, 2, 4, 6, 7] [0, 1, 2, 3, 4, 5, 256, 261, 65536, 524545, 524546, 524547, 524548, 524549, 590592, 590593, 590594, 590595, 591105, 655617, 655618, 655619, 655620, 655621]
  (.seq (.seq (.reg [⟨(some 9), .mv (.t 7), none, 196608, 0, []⟩,
    ⟨(some 10), .faddr 4 (.t 2), none, 196864, 1, []⟩,
    ⟨(some 11), .load 1 false (.t 10), none, 197120, 2, []⟩,
    ⟨(some 12), .len false (.t 11), none, 197376, 3, []⟩,
    ⟨(some 13), .bin .lss (.t 9) (.t 12), none, 197632, 4, []⟩])
  (.cond (.t 13)
   (.skip)
   (.exit 0)))
  (.seq (.block 1 (.seq (.reg [⟨(some 16), .mv (.t 1), none, 327680, 0, []⟩,
    ⟨(some 17), .mv (.t 7), none, 327936, 1, []⟩,
    ⟨(some 18), .call 143 [(.t 16), (.t 17)] true, none, 328192, 2, []⟩,
    ⟨(some 19), .not (.t 18), none, 328448, 3, []⟩])
  (.cond (.t 19)
   (.reg [⟨(some 20), .mv (.t 6), none, 393216, 0, []⟩,
     ⟨(some 21), .mv (.t 7), none, 393472, 1, []⟩,
     ⟨(some 22), .faddr 4 (.t 2), none, 393728, 2, []⟩,
     ⟨(some 23), .load 1 false (.t 22), none, 393984, 3, []⟩,
     ⟨(some 24), .mv (.t 7), none, 394240, 4, []⟩,
     ⟨(some 25), .iaddr 1 (.t 23) (.t 24), none, 394496, 5, []⟩,
     ⟨(some 26), .load 1 false (.t 25), none, 394752, 6, []⟩,
     ⟨(some 27), .build [(.int .i64 0), (.str ByteArray.empty)] [(0, 1, (.t 21)), (1, 1, (.t 26))], none, 395008, 7, []⟩,
     ⟨(some 28), .bslice true 2 [(.int .i64 0), (.str ByteArray.empty)] 1 [(0, (.t 27))], none, 395264, 8, []⟩,
     ⟨(some 29), .app true 2 24 (.t 20) (.t 28), none, 395520, 9, []⟩,
     ⟨(some 6), .mv (.t 29), none, 395776, 10, []⟩])
   (.skip))))
  (.reg [⟨(some 14), .mv (.t 7), none, 262144, 0, []⟩,
    ⟨(some 15), .bin .add (.t 14) (.k (.int .i64 1)), none, 262400, 1, []⟩,
    ⟨(some 7), .mv (.t 15), none, 262656, 2, []⟩]))))))
 (.seq (.seq (.reg [⟨(some 30), .mv (.t 6), none, 458752, 0, []⟩,
   ⟨(some 31), .len false (.t 30), none, 459008, 1, []⟩,
   ⟨(some 32), .faddr 0 (.t 2), none, 459264, 2, []⟩,
   ⟨(some 33), .faddr 0 (.t 32), none, 459520, 3, []⟩,
   ⟨(some 34), .load 1 false (.t 33), none, 459776, 4, []⟩,
   ⟨(some 35), .bin .lss (.t 31) (.t 34), none, 460032, 5, []⟩])
 (.cond (.t 35)
  (.seq (.reg [⟨(some 36), .build [(.int .i64 0), (.int .i64 0), (.int .i64 0), (.int .i64 0), (.nil true 1)] [], none, 524288, 0, []⟩,
    ⟨none, .store 5 (.t 4) (.t 36), none, 524544, 1, []⟩,
    ⟨(some 5), .mv (.k (.bool false)), none, 524800, 2, []⟩])
  (.ret))
  (.skip)))
 (.seq (.reg [⟨(some 37), .faddr 0 (.t 2), none, 589824, 0, []⟩,
   ⟨(some 38), .load 2 true (.t 37), none, 590080, 1, []⟩,
   ⟨(some 39), .mv (.t 6), none, 590336, 2, []⟩,
   ⟨(some 40), .call 124 [(.t 38), (.t 39)] false, none, 590592, 3, []⟩,
   ⟨(some 41), .faddr 4 (.t 2), none, 590848, 4, []⟩,
   ⟨none, .store 1 (.t 41) (.t 40), none, 591104, 5, []⟩])
 (.seq (.reg [⟨(some 42), .load 5 true (.t 2), none, 655360, 0, []⟩,
   ⟨none, .store 5 (.t 4) (.t 42), none, 655616, 1, []⟩,
   ⟨(some 5), .mv (.k (.bool true)), none, 655872, 2, []⟩])
 (.ret))))))⟩
/-- loop.example/g00849/spec.l00Min -/
def F112 : F := ⟨2, 10, [.t 4],
 .seq (.reg [⟨(some 4), .mv (.k (.int .i64 0)), none, 0, 0, []⟩])
 (.seq (.seq (.reg [⟨(some 5), .mv (.t 0), none, 65536, 0, []⟩,
   ⟨(some 6), .mv (.t 1), none, 65792, 1, []⟩,
   ⟨(some 7), .bin .lss (.t 5) (.t 6), none, 66048, 2, []⟩])
 (.cond (.t 7)
  (.seq (.reg [⟨(some 8), .mv (.t 0), none, 131072, 0, []⟩,
    ⟨(some 4), .mv (.t 8), none, 131328, 1, []⟩])
  (.ret))
  (.skip)))
 (.seq (.reg [⟨(some 9), .mv (.t 1), none, 196608, 0, []⟩,
   ⟨(some 4), .mv (.t 9), none, 196864, 1, []⟩])
 (.ret)))⟩
/-- (loop.example/g00849/impl.Wide).stripe -/
def F115 : F := ⟨1, 9, [.t 2],
 .seq (.reg [⟨(some 1), .box (.t 0), none, 0, 0, []⟩,
   ⟨(some 2), .mv (.k (.int .i64 0)), none, 256, 1, []⟩])
 (.seq (.reg [⟨(some 3), .faddr 0 (.t 1), none, 65536, 0, []⟩,
   ⟨(some 4), .faddr 0 (.t 3), none, 65792, 1, []⟩,
   ⟨(some 5), .load 1 false (.t 4), none, 66048, 2, []⟩,
   ⟨(some 6), .faddr 2 (.t 1), none, 66304, 3, []⟩,
   ⟨(some 7), .load 1 false (.t 6), none, 66560, 4, []⟩,
   ⟨(some 8), .bin .mul (.t 5) (.t 7), none, 66816, 5, []⟩,
   ⟨(some 2), .mv (.t 8), none, 67072, 6, []⟩])
 (.ret))⟩
/-- (*loop.example/g00849/spec.l00Src).word -/
def F122 : F := ⟨2, 23, [.t 4],
 .seq (.reg [⟨(some 4), .mv (.k (.str ByteArray.empty)), none, 0, 0, []⟩])
 (.seq (.reg [⟨(some 7), .bslice true 1 [(.int .u8 0)] 0 [], none, 65536, 0, []⟩,
   ⟨(some 5), .mv (.t 7), none, 65792, 1, []⟩])
 (.seq (.seq (.reg [⟨(some 8), .mv (.t 0), none, 131072, 0, []⟩,
   ⟨(some 9), .mv (.t 1), none, 131328, 1, []⟩,
   ⟨(some 10), .call 134 [(.t 8), (.t 9)] true, none, 131584, 2, []⟩,
   ⟨(some 6), .mv (.t 10), none, 131840, 3, []⟩])
 (.block 0 (.loop [0, 5, 6] [65536]
  (.seq (.seq (.reg [⟨(some 11), .mv (.t 6), none, 196608, 0, []⟩,
    ⟨(some 12), .bin .gtr (.t 11) (.k (.int .i64 0)), none, 196864, 1, []⟩])
  (.cond (.t 12)
   (.skip)
   (.exit 0)))
  (.seq (.block 1 (.reg [⟨(some 15), .mv (.t 5), none, 327680, 0, []⟩,
    ⟨(some 16), .mv (.t 0), none, 327936, 1, []⟩,
    ⟨(some 17), .call 148 [(.t 16)] true, none, 328192, 2, []⟩,
    ⟨(some 18), .conv .u8 (.t 17), none, 328448, 3, []⟩,
    ⟨(some 19), .bslice true 1 [(.int .u8 0)] 1 [(0, (.t 18))], none, 328704, 4, []⟩,
    ⟨(some 20), .app true 1 1 (.t 15) (.t 19), none, 328960, 5, []⟩,
    ⟨(some 5), .mv (.t 20), none, 329216, 6, []⟩]))
  (.reg [⟨(some 13), .mv (.t 6), none, 262144, 0, []⟩,
    ⟨(some 14), .bin .sub (.t 13) (.k (.int .i64 1)), none, 262400, 1, []⟩,
    ⟨(some 6), .mv (.t 14), none, 262656, 2, []⟩]))))))
 (.seq (.reg [⟨(some 21), .mv (.t 5), none, 393216, 0, []⟩,
   ⟨(some 22), .b2s (.t 21), none, 393472, 1, []⟩,
   ⟨(some 4), .mv (.t 22), none, 393728, 2, []⟩])
 (.ret))))⟩
/-- loop.example/g00849/spec.l04Back -/
def F124 : F := ⟨2, 48, [.t 4],
 .seq (.reg [⟨(some 2), .box (.t 0), none, 0, 0, []⟩,
   ⟨(some 4), .nil0 true 1, none, 256, 1, []⟩])
 (.seq (.reg [⟨(some 10), .bslice true 1 [(.int .i64 0)] 0 [], none, 65536, 0, []⟩,
   ⟨(some 5), .mv (.t 10), none, 65792, 1, []⟩])
 (.seq (.reg [⟨(some 11), .bslice true 1 [(.str ByteArray.empty)] 0 [], none, 131072, 0, []⟩,
   ⟨(some 6), .mv (.t 11), none, 131328, 1, []⟩])
 (.seq (.seq (.reg [⟨(some 7), .mv (.k (.int .i64 0)), none, 196608, 0, []⟩])
 (.block 0 (.loop [1, 2, 5, 6, 7] [0, 1, 2, 3, 4, 5, 256, 65536, 131072, 525312, 525313, 525314, 525315, 525824, 525825, 525826, 525827, 526080, 526081, 526082, 526083, 527104, 527107, 527361, 527362, 527363, 590336, 590337, 590338, 590339]
  (.seq (.seq (.reg [⟨(some 12), .mv (.t 7), none, 262144, 0, []⟩,
    ⟨(some 13), .faddr 0 (.t 2), none, 262400, 1, []⟩,
    ⟨(some 14), .load 1 false (.t 13), none, 262656, 2, []⟩,
    ⟨(some 15), .bin .lss (.t 12) (.t 14), none, 262912, 3, []⟩])
  (.cond (.t 15)
   (.skip)
   (.exit 0)))
  (.seq (.block 1 (.seq (.reg [⟨(some 18), .mv (.t 5), none, 393216, 0, []⟩,
    ⟨(some 19), .mv (.t 1), none, 393472, 1, []⟩,
    ⟨(some 20), .mv (.t 7), none, 393728, 2, []⟩,
    ⟨(some 21), .iaddr 2 (.t 19) (.t 20), none, 393984, 3, []⟩,
    ⟨(some 22), .faddr 0 (.t 21), none, 394240, 4, []⟩,
    ⟨(some 23), .load 1 false (.t 22), none, 394496, 5, []⟩,
    ⟨(some 24), .bslice true 1 [(.int .i64 0)] 1 [(0, (.t 23))], none, 394752, 6, []⟩,
    ⟨(some 25), .app true 1 8 (.t 18) (.t 24), none, 395008, 7, []⟩,
    ⟨(some 5), .mv (.t 25), none, 395264, 8, []⟩])
  (.reg [⟨(some 26), .mv (.t 6), none, 458752, 0, []⟩,
    ⟨(some 27), .mv (.t 1), none, 459008, 1, []⟩,
    ⟨(some 28), .mv (.t 7), none, 459264, 2, []⟩,
    ⟨(some 29), .iaddr 2 (.t 27) (.t 28), none, 459520, 3, []⟩,
    ⟨(some 30), .faddr 1 (.t 29), none, 459776, 4, []⟩,
    ⟨(some 31), .load 1 false (.t 30), none, 460032, 5, []⟩,
    ⟨(some 32), .bslice true 1 [(.str ByteArray.empty)] 1 [(0, (.t 31))], none, 460288, 6, []⟩,
    ⟨(some 33), .app true 1 16 (.t 26) (.t 32), none, 460544, 7, []⟩,
    ⟨(some 6), .mv (.t 33), none, 460800, 8, []⟩])))
  (.reg [⟨(some 16), .mv (.t 7), none, 327680, 0, []⟩,
    ⟨(some 17), .bin .add (.t 16) (.k (.int .i64 1)), none, 327936, 1, []⟩,
    ⟨(some 7), .mv (.t 17), none, 328192, 2, []⟩]))))))
 (.seq (.reg [⟨(some 35), .faddr 0 (.t 2), none, 524288, 0, []⟩,
   ⟨(some 36), .load 1 false (.t 35), none, 524544, 1, []⟩,
   ⟨(some 37), .faddr 1 (.t 2), none, 524800, 2, []⟩,
   ⟨(some 38), .load 1 false (.t 37), none, 525056, 3, []⟩,
   ⟨(some 39), .call 133 [(.t 36), (.t 38)] false, none, 525312, 4, []⟩,
   ⟨(some 40), .mv (.t 5), none, 525568, 5, []⟩,
   ⟨(some 41), .call 150 [(.t 39), (.t 40)] false, none, 525824, 6, []⟩,
   ⟨(some 42), .call 149 [(.t 41)] false, none, 526080, 7, []⟩,
   ⟨(some 34), .mv (.t 42), none, 526336, 8, []⟩,
   ⟨(some 43), .ext (.t 34) 0, none, 526592, 9, []⟩,
   ⟨(some 44), .ext (.t 34) 1, none, 526848, 10, []⟩,
   ⟨(some 8), .alloc [(.int .i64 0), (.int .i64 0), (.nil true 1)], none, 527104, 11, []⟩,
   ⟨none, .store 3 (.t 8) (.t 43), none, 527360, 12, []⟩,
   ⟨(some 9), .mv (.t 44), none, 527616, 13, []⟩])
 (.seq (.reg [⟨(some 45), .load 3 true (.t 8), none, 589824, 0, []⟩,
   ⟨(some 46), .mv (.t 6), none, 590080, 1, []⟩,
   ⟨(some 47), .call 132 [(.t 45), (.t 46)] false, none, 590336, 2, []⟩,
   ⟨(some 4), .mv (.t 47), none, 590592, 3, []⟩])
 (.ret))))))⟩
/-- loop.example/g00849/impl.inverted -/
def F128 : F := ⟨1, 126, [.cell 2 3 true, .t 3],
 .seq (.reg [⟨(some 1), .box (.t 0), none, 0, 0, []⟩,
   ⟨(some 2), .alloc [(.int .i64 0), (.int .i64 0), (.nil true 1)], none, 256, 1, []⟩,
   ⟨(some 3), .mv (.k (.bool false)), none, 512, 2, []⟩])
 (.seq (.reg [⟨(some 11), .faddr 0 (.t 1), none, 65536, 0, []⟩,
   ⟨(some 12), .load 1 false (.t 11), none, 65792, 1, []⟩,
   ⟨(some 13), .faddr 1 (.t 1), none, 66048, 2, []⟩,
   ⟨(some 14), .load 1 false (.t 13), none, 66304, 3, []⟩,
   ⟨(some 15), .faddr 2 (.t 1), none, 66560, 4, []⟩,
   ⟨(some 16), .load 1 false (.t 15), none, 66816, 5, []⟩,
   ⟨(some 17), .call 153 [(.t 16)] false, none, 67072, 6, []⟩,
   ⟨(some 18), .build [(.int .i64 0), (.int .i64 0), (.nil true 1)] [(0, 1, (.t 12)), (1, 1, (.t 14)), (2, 1, (.t 17))], none, 67328, 7, []⟩,
   ⟨(some 4), .alloc [(.int .i64 0), (.int .i64 0), (.nil true 1)], none, 67584, 8, []⟩,
   ⟨none, .store 3 (.t 4) (.t 18), none, 67840, 9, []⟩])
 (.seq (.reg [⟨(some 19), .faddr 0 (.t 1), none, 131072, 0, []⟩,
   ⟨(some 20), .load 1 false (.t 19), none, 131328, 1, []⟩,
   ⟨(some 21), .call 154 [(.t 20)] false, none, 131584, 2, []⟩,
   ⟨(some 5), .alloc [(.int .i64 0), (.int .i64 0), (.nil true 1)], none, 131840, 3, []⟩,
   ⟨none, .store 3 (.t 5) (.t 21), none, 132096, 4, []⟩])
 (.seq (.seq (.reg [⟨(some 22), .faddr 0 (.t 1), none, 196608, 0, []⟩,
   ⟨(some 23), .load 1 false (.t 22), none, 196864, 1, []⟩,
   ⟨(some 24), .mv (.k (.int .i64 0)), none, 197120, 2, []⟩])
 (.block 0 (.loop [1, 2, 4, 5, 23, 24] [0, 1, 2, 3, 4, 5, 256, 259, 67072, 67073, 67074, 67075, 67584, 67587, 67841, 67842, 67843, 131584, 131585, 131586, 131587, 131840, 131843, 132097, 132098, 132099, 1704193, 1704194, 1704195]
  (.seq (.reg [⟨(some 25), .bin .lss (.t 24) (.t 23), none, 262144, 0, []⟩])
  (.seq (.cond (.t 25)
   (.skip)
   (.exit 0))
  (.seq (.block 1 (.seq (.reg [⟨(some 26), .mv (.t 24), none, 327680, 0, []⟩,
    ⟨(some 6), .mv (.t 26), none, 327936, 1, []⟩])
  (.seq (.seq (.reg [⟨(some 27), .mv (.t 6), none, 393216, 0, []⟩,
    ⟨(some 7), .mv (.t 27), none, 393472, 1, []⟩])
  (.block 2 (.loop [1, 2, 4, 5, 6, 7, 23, 24] [0, 1, 2, 3, 4, 5, 256, 259, 67072, 67073, 67074, 67075, 67584, 67587, 67841, 67842, 67843, 131584, 131585, 131586, 131587, 131840, 131843, 132097, 132098, 132099, 918016, 918017, 918018, 918019, 983552, 983553, 983554, 983555, 984320, 984321, 984322, 984323, 984576, 984577, 984578, 984579, 1049088, 1049089, 1049090, 1049091, 1049856, 1049857, 1049858, 1049859, 1050112, 1050113, 1050114, 1050115, 1311232, 1311233, 1311234, 1311235, 1442304, 1442305, 1442306, 1442307, 1443072, 1443073, 1443074, 1443075, 1507840, 1507841, 1507842, 1507843, 1508608, 1508609, 1508610, 1508611, 1704193, 1704194, 1704195]
   (.seq (.seq (.reg [⟨(some 28), .load 3 true (.t 4), none, 458752, 0, []⟩,
     ⟨(some 29), .mv (.t 6), none, 459008, 1, []⟩,
     ⟨(some 30), .call 155 [(.t 28), (.t 29)] false, none, 459264, 2, []⟩,
     ⟨(some 31), .mv (.t 6), none, 459520, 3, []⟩,
     ⟨(some 32), .iaddr 1 (.t 30) (.t 31), none, 459776, 4, []⟩,
     ⟨(some 33), .load 1 false (.t 32), none, 460032, 5, []⟩,
     ⟨(some 34), .bin .eql (.t 33) (.k (.int .i64 0)), none, 460288, 6, []⟩])
   (.cond (.t 34)
    (.skip)
    (.exit 2)))
   (.seq (.block 3 (.seq (.seq (.reg [⟨(some 37), .mv (.t 7), none, 589824, 0, []⟩,
     ⟨(some 38), .faddr 0 (.t 1), none, 590080, 1, []⟩,
     ⟨(some 39), .load 1 false (.t 38), none, 590336, 2, []⟩,
     ⟨(some 40), .bin .eql (.t 37) (.t 39), none, 590592, 3, []⟩])
   (.cond (.t 40)
    (.seq (.reg [⟨(some 41), .build [(.int .i64 0), (.int .i64 0), (.nil true 1)] [], none, 655360, 0, []⟩,
      ⟨none, .store 3 (.t 2) (.t 41), none, 655616, 1, []⟩,
      ⟨(some 3), .mv (.k (.bool false)), none, 655872, 2, []⟩])
    (.ret))
    (.skip)))
   (.seq (.reg [⟨(some 42), .load 3 true (.t 4), none, 720896, 0, []⟩,
     ⟨(some 43), .mv (.t 7), none, 721152, 1, []⟩,
     ⟨(some 44), .call 155 [(.t 42), (.t 43)] false, none, 721408, 2, []⟩,
     ⟨(some 45), .mv (.t 6), none, 721664, 3, []⟩,
     ⟨(some 46), .iaddr 1 (.t 44) (.t 45), none, 721920, 4, []⟩,
     ⟨(some 47), .load 1 false (.t 46), none, 722176, 5, []⟩,
     ⟨(some 48), .bin .neq (.t 47) (.k (.int .i64 0)), none, 722432, 6, []⟩])
   (.cond (.t 48)
    (.seq (.reg [⟨(some 49), .load 3 true (.t 4), none, 786432, 0, []⟩,
      ⟨(some 50), .mv (.t 6), none, 786688, 1, []⟩,
      ⟨(some 51), .call 155 [(.t 49), (.t 50)] false, none, 786944, 2, []⟩,
      ⟨(some 52), .load 3 true (.t 4), none, 787200, 3, []⟩,
      ⟨(some 53), .mv (.t 7), none, 787456, 4, []⟩,
      ⟨(some 54), .call 155 [(.t 52), (.t 53)] false, none, 787712, 5, []⟩,
      ⟨(some 55), .call 156 [(.t 51), (.t 54), (.k (.int .i64 1))] true, none, 787968, 6, []⟩])
    (.reg [⟨(some 56), .load 3 true (.t 5), none, 851968, 0, []⟩,
      ⟨(some 57), .mv (.t 6), none, 852224, 1, []⟩,
      ⟨(some 58), .call 155 [(.t 56), (.t 57)] false, none, 852480, 2, []⟩,
      ⟨(some 59), .load 3 true (.t 5), none, 852736, 3, []⟩,
      ⟨(some 60), .mv (.t 7), none, 852992, 4, []⟩,
      ⟨(some 61), .call 155 [(.t 59), (.t 60)] false, none, 853248, 5, []⟩,
      ⟨(some 62), .call 156 [(.t 58), (.t 61), (.k (.int .i64 1))] true, none, 853504, 6, []⟩]))
    (.skip)))))
   (.reg [⟨(some 35), .mv (.t 7), none, 524288, 0, []⟩,
     ⟨(some 36), .bin .add (.t 35) (.k (.int .i64 1)), none, 524544, 1, []⟩,
     ⟨(some 7), .mv (.t 36), none, 524800, 2, []⟩]))))))
  (.seq (.reg [⟨(some 63), .load 3 true (.t 4), none, 917504, 0, []⟩,
    ⟨(some 64), .mv (.t 6), none, 917760, 1, []⟩,
    ⟨(some 65), .call 155 [(.t 63), (.t 64)] false, none, 918016, 2, []⟩,
    ⟨(some 66), .mv (.t 6), none, 918272, 3, []⟩,
    ⟨(some 67), .iaddr 1 (.t 65) (.t 66), none, 918528, 4, []⟩,
    ⟨(some 68), .load 1 false (.t 67), none, 918784, 5, []⟩,
    ⟨(some 69), .call 157 [(.t 68)] true, none, 919040, 6, []⟩,
    ⟨(some 70), .bin .xor (.t 69) (.k (.int .i64 1)), none, 919296, 7, []⟩,
    ⟨(some 8), .mv (.t 70), none, 919552, 8, []⟩])
  (.seq (.reg [⟨(some 71), .load 3 true (.t 4), none, 983040, 0, []⟩,
    ⟨(some 72), .mv (.t 6), none, 983296, 1, []⟩,
    ⟨(some 73), .call 155 [(.t 71), (.t 72)] false, none, 983552, 2, []⟩,
    ⟨(some 74), .load 3 true (.t 4), none, 983808, 3, []⟩,
    ⟨(some 75), .mv (.t 6), none, 984064, 4, []⟩,
    ⟨(some 76), .call 155 [(.t 74), (.t 75)] false, none, 984320, 5, []⟩,
    ⟨(some 77), .call 153 [(.t 76)] false, none, 984576, 6, []⟩,
    ⟨(some 78), .mv (.t 8), none, 984832, 7, []⟩,
    ⟨(some 79), .call 156 [(.t 73), (.t 77), (.t 78)] true, none, 985088, 8, []⟩])
  (.seq (.reg [⟨(some 80), .load 3 true (.t 5), none, 1048576, 0, []⟩,
    ⟨(some 81), .mv (.t 6), none, 1048832, 1, []⟩,
    ⟨(some 82), .call 155 [(.t 80), (.t 81)] false, none, 1049088, 2, []⟩,
    ⟨(some 83), .load 3 true (.t 5), none, 1049344, 3, []⟩,
    ⟨(some 84), .mv (.t 6), none, 1049600, 4, []⟩,
    ⟨(some 85), .call 155 [(.t 83), (.t 84)] false, none, 1049856, 5, []⟩,
    ⟨(some 86), .call 153 [(.t 85)] false, none, 1050112, 6, []⟩,
    ⟨(some 87), .mv (.t 8), none, 1050368, 7, []⟩,
    ⟨(some 88), .call 156 [(.t 82), (.t 86), (.t 87)] true, none, 1050624, 8, []⟩])
  (.seq (.reg [⟨(some 89), .faddr 0 (.t 1), none, 1114112, 0, []⟩,
    ⟨(some 90), .load 1 false (.t 89), none, 1114368, 1, []⟩,
    ⟨(some 91), .mv (.k (.int .i64 0)), none, 1114624, 2, []⟩])
  (.block 4 (.loop [1, 2, 4, 5, 6, 23, 24, 90, 91] [0, 1, 2, 3, 4, 5, 256, 259, 67072, 67073, 67074, 67075, 67584, 67587, 67841, 67842, 67843, 131584, 131585, 131586, 131587, 131840, 131843, 132097, 132098, 132099, 459264, 459265, 459266, 459267, 655617, 655618, 655619, 721408, 721409, 721410, 721411, 786944, 786945, 786946, 786947, 787712, 787713, 787714, 787715, 852480, 852481, 852482, 852483, 853248, 853249, 853250, 853251, 918016, 918017, 918018, 918019, 983552, 983553, 983554, 983555, 984320, 984321, 984322, 984323, 984576, 984577, 984578, 984579, 1049088, 1049089, 1049090, 1049091, 1049856, 1049857, 1049858, 1049859, 1050112, 1050113, 1050114, 1050115, 1704193, 1704194, 1704195]
   (.seq (.reg [⟨(some 92), .bin .lss (.t 91) (.t 90), none, 1179648, 0, []⟩])
   (.seq (.cond (.t 92)
    (.skip)
    (.exit 4))
   (.seq (.block 5 (.seq (.reg [⟨(some 93), .mv (.t 91), none, 1245184, 0, []⟩,
     ⟨(some 9), .mv (.t 93), none, 1245440, 1, []⟩])
   (.seq (.reg [⟨(some 94), .load 3 true (.t 4), none, 1310720, 0, []⟩,
     ⟨(some 95), .mv (.t 9), none, 1310976, 1, []⟩,
     ⟨(some 96), .call 155 [(.t 94), (.t 95)] false, none, 1311232, 2, []⟩,
     ⟨(some 97), .mv (.t 6), none, 1311488, 3, []⟩,
     ⟨(some 98), .iaddr 1 (.t 96) (.t 97), none, 1311744, 4, []⟩,
     ⟨(some 99), .load 1 false (.t 98), none, 1312000, 5, []⟩,
     ⟨(some 10), .mv (.t 99), none, 1312256, 6, []⟩])
   (.seq (.reg [⟨(some 100), .mv (.t 9), none, 1376256, 0, []⟩,
     ⟨(some 101), .mv (.t 6), none, 1376512, 1, []⟩,
     ⟨(some 102), .bin .neq (.t 100) (.t 101), none, 1376768, 2, []⟩,
     ⟨(some 103), .mv (.t 102), none, 1377024, 3, []⟩,
     ⟨(some 104), .mv (.t 10), (some (some 103, true)), 1377280, 4, []⟩,
     ⟨(some 105), .bin .neq (.t 104) (.k (.int .i64 0)), (some (some 103, true)), 1377536, 5, []⟩,
     ⟨(some 106), .pick (.t 103) (.t 105) (.k (.bool false)), none, 1377792, 6, []⟩])
   (.cond (.t 106)
    (.seq (.reg [⟨(some 107), .load 3 true (.t 4), none, 1441792, 0, []⟩,
      ⟨(some 108), .mv (.t 9), none, 1442048, 1, []⟩,
      ⟨(some 109), .call 155 [(.t 107), (.t 108)] false, none, 1442304, 2, []⟩,
      ⟨(some 110), .load 3 true (.t 4), none, 1442560, 3, []⟩,
      ⟨(some 111), .mv (.t 6), none, 1442816, 4, []⟩,
      ⟨(some 112), .call 155 [(.t 110), (.t 111)] false, none, 1443072, 5, []⟩,
      ⟨(some 113), .mv (.t 10), none, 1443328, 6, []⟩,
      ⟨(some 114), .call 156 [(.t 109), (.t 112), (.t 113)] true, none, 1443584, 7, []⟩])
    (.reg [⟨(some 115), .load 3 true (.t 5), none, 1507328, 0, []⟩,
      ⟨(some 116), .mv (.t 9), none, 1507584, 1, []⟩,
      ⟨(some 117), .call 155 [(.t 115), (.t 116)] false, none, 1507840, 2, []⟩,
      ⟨(some 118), .load 3 true (.t 5), none, 1508096, 3, []⟩,
      ⟨(some 119), .mv (.t 6), none, 1508352, 4, []⟩,
      ⟨(some 120), .call 155 [(.t 118), (.t 119)] false, none, 1508608, 5, []⟩,
      ⟨(some 121), .mv (.t 10), none, 1508864, 6, []⟩,
      ⟨(some 122), .call 156 [(.t 117), (.t 120), (.t 121)] true, none, 1509120, 7, []⟩]))
    (.skip))))))
   (.reg [⟨(some 123), .bin .add (.t 91) (.k (.int .i64 1)), none, 1572864, 0, []⟩,
     ⟨(some 91), .mv (.t 123), none, 1573120, 1, []⟩])))))))))))))
  (.reg [⟨(some 124), .bin .add (.t 24) (.k (.int .i64 1)), none, 1638400, 0, []⟩,
    ⟨(some 24), .mv (.t 124), none, 1638656, 1, []⟩])))))))
 (.seq (.reg [⟨(some 125), .load 3 true (.t 5), none, 1703936, 0, []⟩,
   ⟨none, .store 3 (.t 2) (.t 125), none, 1704192, 1, []⟩,
   ⟨(some 3), .mv (.k (.bool true)), none, 1704448, 2, []⟩])
 (.ret)))))⟩
/-- loop.example/g00849/impl.generator -/
def F129 : F := ⟨2, 40, [.cell 4 3 true],
 .seq (.reg [⟨(some 4), .alloc [(.int .i64 0), (.int .i64 0), (.nil true 1)], none, 0, 0, []⟩])
 (.seq (.reg [⟨(some 8), .mv (.t 0), none, 65536, 0, []⟩,
   ⟨(some 9), .call 154 [(.t 8)] false, none, 65792, 1, []⟩,
   ⟨(some 5), .alloc [(.int .i64 0), (.int .i64 0), (.nil true 1)], none, 66048, 2, []⟩,
   ⟨none, .store 3 (.t 5) (.t 9), none, 66304, 3, []⟩])
 (.seq (.reg [⟨(some 10), .mv (.t 0), none, 131072, 0, []⟩,
   ⟨(some 11), .mv (.t 1), none, 131328, 1, []⟩,
   ⟨(some 12), .bin .add (.t 10) (.t 11), none, 131584, 2, []⟩,
   ⟨(some 13), .faddr 0 (.t 5), none, 131840, 3, []⟩,
   ⟨none, .store 1 (.t 13) (.t 12), none, 132096, 4, []⟩])
 (.seq (.seq (.reg [⟨(some 14), .mv (.t 1), none, 196608, 0, []⟩,
   ⟨(some 15), .mv (.k (.int .i64 0)), none, 196864, 1, []⟩])
 (.block 0 (.loop [0, 4, 5, 14, 15] [0, 3, 65792, 65793, 65794, 65795, 66048, 66051, 66305, 66306, 66307, 132097, 786689, 786690, 786691]
  (.seq (.reg [⟨(some 16), .bin .lss (.t 15) (.t 14), none, 262144, 0, []⟩])
  (.seq (.cond (.t 16)
   (.skip)
   (.exit 0))
  (.seq (.block 1 (.seq (.reg [⟨(some 17), .mv (.t 15), none, 327680, 0, []⟩,
    ⟨(some 6), .mv (.t 17), none, 327936, 1, []⟩])
  (.seq (.reg [⟨(some 18), .mv (.t 0), none, 393216, 0, []⟩,
    ⟨(some 19), .mv (.k (.int .i64 0)), none, 393472, 1, []⟩])
  (.block 2 (.loop [0, 4, 5, 6, 14, 15, 18, 19] [0, 3, 65792, 65793, 65794, 65795, 66048, 66051, 66305, 66306, 66307, 132097, 786689, 786690, 786691]
   (.seq (.reg [⟨(some 20), .bin .lss (.t 19) (.t 18), none, 458752, 0, []⟩])
   (.seq (.cond (.t 20)
    (.skip)
    (.exit 2))
   (.seq (.block 3 (.seq (.reg [⟨(some 21), .mv (.t 19), none, 524288, 0, []⟩,
     ⟨(some 7), .mv (.t 21), none, 524544, 1, []⟩])
   (.reg [⟨(some 22), .faddr 2 (.t 5), none, 589824, 0, []⟩,
     ⟨(some 23), .load 1 false (.t 22), none, 590080, 1, []⟩,
     ⟨(some 24), .mv (.t 0), none, 590336, 2, []⟩,
     ⟨(some 25), .mv (.t 6), none, 590592, 3, []⟩,
     ⟨(some 26), .bin .add (.t 24) (.t 25), none, 590848, 4, []⟩,
     ⟨(some 27), .mv (.t 0), none, 591104, 5, []⟩,
     ⟨(some 28), .mv (.t 6), none, 591360, 6, []⟩,
     ⟨(some 29), .bin .add (.t 27) (.t 28), none, 591616, 7, []⟩,
     ⟨(some 30), .mv (.t 7), none, 591872, 8, []⟩,
     ⟨(some 31), .bin .xor (.t 29) (.t 30), none, 592128, 9, []⟩,
     ⟨(some 32), .call 157 [(.t 31)] true, none, 592384, 10, []⟩,
     ⟨(some 33), .call 158 [(.t 26), (.t 32)] true, none, 592640, 11, []⟩,
     ⟨(some 34), .bslice true 1 [(.int .i64 0)] 1 [(0, (.t 33))], none, 592896, 12, []⟩,
     ⟨(some 35), .app true 1 8 (.t 23) (.t 34), none, 593152, 13, []⟩,
     ⟨(some 36), .faddr 2 (.t 5), none, 593408, 14, []⟩,
     ⟨none, .store 1 (.t 36) (.t 35), none, 593664, 15, []⟩])))
   (.reg [⟨(some 37), .bin .add (.t 19) (.k (.int .i64 1)), none, 655360, 0, []⟩,
     ⟨(some 19), .mv (.t 37), none, 655616, 1, []⟩])))))))))
  (.reg [⟨(some 38), .bin .add (.t 15) (.k (.int .i64 1)), none, 720896, 0, []⟩,
    ⟨(some 15), .mv (.t 38), none, 721152, 1, []⟩])))))))
 (.seq (.reg [⟨(some 39), .load 3 true (.t 5), none, 786432, 0, []⟩,
   ⟨none, .store 3 (.t 4) (.t 39), none, 786688, 1, []⟩])
 (.ret)))))⟩
/-- (loop.example/g00849/impl.Matrix).rows -/
def F130 : F := ⟨2, 28, [.cell 4 3 true],
 .seq (.reg [⟨(some 2), .box (.t 0), none, 0, 0, []⟩,
   ⟨(some 4), .alloc [(.int .i64 0), (.int .i64 0), (.nil true 1)], none, 256, 1, []⟩])
 (.seq (.reg [⟨(some 8), .mv (.t 1), none, 65536, 0, []⟩,
   ⟨(some 9), .len false (.t 8), none, 65792, 1, []⟩,
   ⟨(some 10), .faddr 1 (.t 2), none, 66048, 2, []⟩,
   ⟨(some 11), .load 1 false (.t 10), none, 66304, 3, []⟩,
   ⟨(some 12), .build [(.int .i64 0), (.int .i64 0), (.nil true 1)] [(0, 1, (.t 9)), (1, 1, (.t 11))], none, 66560, 4, []⟩,
   ⟨(some 5), .alloc [(.int .i64 0), (.int .i64 0), (.nil true 1)], none, 66816, 5, []⟩,
   ⟨none, .store 3 (.t 5) (.t 12), none, 67072, 6, []⟩])
 (.seq (.seq (.reg [⟨(some 13), .mv (.t 1), none, 131072, 0, []⟩,
   ⟨(some 14), .len false (.t 13), none, 131328, 1, []⟩,
   ⟨(some 15), .mv (.k (.int .i64 0)), none, 131584, 2, []⟩])
 (.block 0 (.loop [2, 4, 5, 13, 14, 15] [0, 1, 2, 3, 4, 5, 256, 259, 66816, 66819, 67073, 67074, 67075, 459009, 459010, 459011]
  (.seq (.reg [⟨(some 16), .bin .lss (.t 15) (.t 14), none, 196608, 0, []⟩])
  (.seq (.cond (.t 16)
   (.skip)
   (.exit 0))
  (.seq (.block 1 (.seq (.reg [⟨(some 17), .iaddr 1 (.t 13) (.t 15), none, 262144, 0, []⟩,
    ⟨(some 18), .load 1 false (.t 17), none, 262400, 1, []⟩,
    ⟨(some 7), .mv (.t 18), none, 262656, 2, []⟩])
  (.reg [⟨(some 19), .faddr 2 (.t 5), none, 327680, 0, []⟩,
    ⟨(some 20), .load 1 false (.t 19), none, 327936, 1, []⟩,
    ⟨(some 21), .load 3 true (.t 2), none, 328192, 2, []⟩,
    ⟨(some 22), .mv (.t 7), none, 328448, 3, []⟩,
    ⟨(some 23), .call 155 [(.t 21), (.t 22)] false, none, 328704, 4, []⟩,
    ⟨(some 24), .app true 1 8 (.t 20) (.t 23), none, 328960, 5, []⟩,
    ⟨(some 25), .faddr 2 (.t 5), none, 329216, 6, []⟩,
    ⟨none, .store 1 (.t 25) (.t 24), none, 329472, 7, []⟩])))
  (.reg [⟨(some 26), .bin .add (.t 15) (.k (.int .i64 1)), none, 393216, 0, []⟩,
    ⟨(some 15), .mv (.t 26), none, 393472, 1, []⟩])))))))
 (.seq (.reg [⟨(some 27), .load 3 true (.t 5), none, 458752, 0, []⟩,
   ⟨none, .store 3 (.t 4) (.t 27), none, 459008, 1, []⟩])
 (.ret))))⟩
/-- (loop.example/g00849/impl.Matrix).pieces -/
def F131 : F := ⟨2, 44, [.t 4],
 .seq (.reg [⟨(some 2), .box (.t 0), none, 0, 0, []⟩,
   ⟨(some 4), .nil0 true 1, none, 256, 1, []⟩])
 (.seq (.reg [⟨(some 5), .nil0 true 1, none, 65536, 0, []⟩])
 (.seq (.seq (.reg [⟨(some 10), .faddr 0 (.t 2), none, 131072, 0, []⟩,
   ⟨(some 11), .load 1 false (.t 10), none, 131328, 1, []⟩,
   ⟨(some 12), .mv (.k (.int .i64 0)), none, 131584, 2, []⟩])
 (.block 0 (.loop [1, 2, 5, 11, 12] [0, 1, 2, 3, 4, 5, 256, 65536]
  (.seq (.reg [⟨(some 13), .bin .lss (.t 12) (.t 11), none, 196608, 0, []⟩])
  (.seq (.cond (.t 13)
   (.skip)
   (.exit 0))
  (.seq (.block 1 (.seq (.reg [⟨(some 14), .mv (.t 12), none, 262144, 0, []⟩,
    ⟨(some 6), .mv (.t 14), none, 262400, 1, []⟩])
  (.seq (.reg [⟨(some 15), .mv (.t 1), none, 327680, 0, []⟩,
    ⟨(some 16), .iaddr 1 (.t 15) (.k (.int .i64 0)), none, 327936, 1, []⟩,
    ⟨(some 17), .load 1 false (.t 16), none, 328192, 2, []⟩,
    ⟨(some 18), .len true (.t 17), none, 328448, 3, []⟩,
    ⟨(some 19), .call 135 [(.k (.str ⟨#[0]⟩)), (.t 18)] true, none, 328704, 4, []⟩,
    ⟨(some 7), .mv (.t 19), none, 328960, 5, []⟩])
  (.seq (.seq (.reg [⟨(some 20), .load 3 true (.t 2), none, 393216, 0, []⟩,
    ⟨(some 21), .mv (.t 6), none, 393472, 1, []⟩,
    ⟨(some 22), .call 155 [(.t 20), (.t 21)] false, none, 393728, 2, []⟩,
    ⟨(some 23), .len false (.t 22), none, 393984, 3, []⟩,
    ⟨(some 24), .mv (.k (.int .i64 0)), none, 394240, 4, []⟩])
  (.block 2 (.loop [1, 2, 5, 7, 11, 12, 22, 23, 24] [0, 1, 2, 3, 4, 5, 256, 65536, 393728, 393729, 393730, 393731, 721408, 721664]
   (.seq (.reg [⟨(some 25), .bin .lss (.t 24) (.t 23), none, 458752, 0, []⟩])
   (.seq (.cond (.t 25)
    (.skip)
    (.exit 2))
   (.seq (.block 3 (.seq (.reg [⟨(some 26), .mv (.t 24), none, 524288, 0, []⟩,
     ⟨(some 27), .iaddr 1 (.t 22) (.t 24), none, 524544, 1, []⟩,
     ⟨(some 28), .load 1 false (.t 27), none, 524800, 2, []⟩,
     ⟨(some 8), .mv (.t 26), none, 525056, 3, []⟩,
     ⟨(some 9), .mv (.t 28), none, 525312, 4, []⟩])
   (.reg [⟨(some 29), .mv (.t 7), none, 589824, 0, []⟩,
     ⟨(some 30), .mv (.t 9), none, 590080, 1, []⟩,
     ⟨(some 31), .mv (.t 1), none, 590336, 2, []⟩,
     ⟨(some 32), .mv (.t 8), none, 590592, 3, []⟩,
     ⟨(some 33), .iaddr 1 (.t 31) (.t 32), none, 590848, 4, []⟩,
     ⟨(some 34), .load 1 false (.t 33), none, 591104, 5, []⟩,
     ⟨(some 35), .call 159 [(.t 30), (.t 34)] true, none, 591360, 6, []⟩,
     ⟨(some 36), .call 147 [(.t 29), (.t 35)] true, none, 591616, 7, []⟩,
     ⟨(some 7), .mv (.t 36), none, 591872, 8, []⟩])))
   (.reg [⟨(some 37), .bin .add (.t 24) (.k (.int .i64 1)), none, 655360, 0, []⟩,
     ⟨(some 24), .mv (.t 37), none, 655616, 1, []⟩])))))))
  (.reg [⟨(some 38), .mv (.t 5), none, 720896, 0, []⟩,
    ⟨(some 39), .mv (.t 7), none, 721152, 1, []⟩,
    ⟨(some 40), .bslice true 1 [(.str ByteArray.empty)] 1 [(0, (.t 39))], none, 721408, 2, []⟩,
    ⟨(some 41), .app true 1 16 (.t 38) (.t 40), none, 721664, 3, []⟩,
    ⟨(some 5), .mv (.t 41), none, 721920, 4, []⟩])))))
  (.reg [⟨(some 42), .bin .add (.t 12) (.k (.int .i64 1)), none, 786432, 0, []⟩,
    ⟨(some 12), .mv (.t 42), none, 786688, 1, []⟩])))))))
 (.seq (.reg [⟨(some 43), .mv (.t 5), none, 851968, 0, []⟩,
   ⟨(some 4), .mv (.t 43), none, 852224, 1, []⟩])
 (.ret))))⟩
/-- loop.example/g00849/spec.l03Pieces -/
def F132 : F := ⟨2, 48, [.t 4],
 .seq (.reg [⟨(some 2), .box (.t 0), none, 0, 0, []⟩,
   ⟨(some 4), .nil0 true 1, none, 256, 1, []⟩])
 (.seq (.reg [⟨(some 9), .bslice true 1 [(.str ByteArray.empty)] 0 [], none, 65536, 0, []⟩,
   ⟨(some 5), .mv (.t 9), none, 65792, 1, []⟩])
 (.seq (.seq (.reg [⟨(some 6), .mv (.k (.int .i64 0)), none, 131072, 0, []⟩])
 (.block 0 (.loop [1, 2, 5, 6] [0, 1, 2, 3, 4, 5, 256, 65536]
  (.seq (.seq (.reg [⟨(some 10), .mv (.t 6), none, 196608, 0, []⟩,
    ⟨(some 11), .faddr 0 (.t 2), none, 196864, 1, []⟩,
    ⟨(some 12), .load 1 false (.t 11), none, 197120, 2, []⟩,
    ⟨(some 13), .bin .lss (.t 10) (.t 12), none, 197376, 3, []⟩])
  (.cond (.t 13)
   (.skip)
   (.exit 0)))
  (.seq (.block 1 (.seq (.reg [⟨(some 16), .mv (.t 1), none, 327680, 0, []⟩,
    ⟨(some 17), .iaddr 1 (.t 16) (.k (.int .i64 0)), none, 327936, 1, []⟩,
    ⟨(some 18), .load 1 false (.t 17), none, 328192, 2, []⟩,
    ⟨(some 19), .call 160 [(.k (.int .i64 0)), (.t 18)] true, none, 328448, 3, []⟩,
    ⟨(some 7), .mv (.t 19), none, 328704, 4, []⟩])
  (.seq (.seq (.reg [⟨(some 8), .mv (.k (.int .i64 0)), none, 393216, 0, []⟩])
  (.block 2 (.loop [1, 2, 5, 6, 7, 8] [0, 1, 2, 3, 4, 5, 256, 65536, 655872, 656128]
   (.seq (.seq (.reg [⟨(some 20), .mv (.t 8), none, 458752, 0, []⟩,
     ⟨(some 21), .faddr 1 (.t 2), none, 459008, 1, []⟩,
     ⟨(some 22), .load 1 false (.t 21), none, 459264, 2, []⟩,
     ⟨(some 23), .bin .lss (.t 20) (.t 22), none, 459520, 3, []⟩])
   (.cond (.t 23)
    (.skip)
    (.exit 2)))
   (.seq (.block 3 (.reg [⟨(some 26), .mv (.t 7), none, 589824, 0, []⟩,
     ⟨(some 27), .faddr 2 (.t 2), none, 590080, 1, []⟩,
     ⟨(some 28), .load 1 false (.t 27), none, 590336, 2, []⟩,
     ⟨(some 29), .mv (.t 6), none, 590592, 3, []⟩,
     ⟨(some 30), .faddr 1 (.t 2), none, 590848, 4, []⟩,
     ⟨(some 31), .load 1 false (.t 30), none, 591104, 5, []⟩,
     ⟨(some 32), .bin .mul (.t 29) (.t 31), none, 591360, 6, []⟩,
     ⟨(some 33), .mv (.t 8), none, 591616, 7, []⟩,
     ⟨(some 34), .bin .add (.t 32) (.t 33), none, 591872, 8, []⟩,
     ⟨(some 35), .iaddr 1 (.t 28) (.t 34), none, 592128, 9, []⟩,
     ⟨(some 36), .load 1 false (.t 35), none, 592384, 10, []⟩,
     ⟨(some 37), .mv (.t 1), none, 592640, 11, []⟩,
     ⟨(some 38), .mv (.t 8), none, 592896, 12, []⟩,
     ⟨(some 39), .iaddr 1 (.t 37) (.t 38), none, 593152, 13, []⟩,
     ⟨(some 40), .load 1 false (.t 39), none, 593408, 14, []⟩,
     ⟨(some 41), .call 160 [(.t 36), (.t 40)] true, none, 593664, 15, []⟩,
     ⟨(some 42), .call 146 [(.t 26), (.t 41)] true, none, 593920, 16, []⟩,
     ⟨(some 7), .mv (.t 42), none, 594176, 17, []⟩]))
   (.reg [⟨(some 24), .mv (.t 8), none, 524288, 0, []⟩,
     ⟨(some 25), .bin .add (.t 24) (.k (.int .i64 1)), none, 524544, 1, []⟩,
     ⟨(some 8), .mv (.t 25), none, 524800, 2, []⟩]))))))
  (.reg [⟨(some 43), .mv (.t 5), none, 655360, 0, []⟩,
    ⟨(some 44), .mv (.t 7), none, 655616, 1, []⟩,
    ⟨(some 45), .bslice true 1 [(.str ByteArray.empty)] 1 [(0, (.t 44))], none, 655872, 2, []⟩,
    ⟨(some 46), .app true 1 16 (.t 43) (.t 45), none, 656128, 3, []⟩,
    ⟨(some 5), .mv (.t 46), none, 656384, 4, []⟩]))))
  (.reg [⟨(some 14), .mv (.t 6), none, 262144, 0, []⟩,
    ⟨(some 15), .bin .add (.t 14) (.k (.int .i64 1)), none, 262400, 1, []⟩,
    ⟨(some 6), .mv (.t 15), none, 262656, 2, []⟩]))))))
 (.seq (.reg [⟨(some 47), .mv (.t 5), none, 720896, 0, []⟩,
   ⟨(some 4), .mv (.t 47), none, 721152, 1, []⟩])
 (.ret))))⟩
/-- loop.example/g00849/spec.l03Code -/
def F133 : F := ⟨2, 40, [.cell 4 3 true],
 .seq (.reg [⟨(some 4), .alloc [(.int .i64 0), (.int .i64 0), (.nil true 1)], none, 0, 0, []⟩])
 (.seq (.reg [⟨(some 8), .mv (.t 0), none, 65536, 0, []⟩,
   ⟨(some 9), .call 161 [(.t 8)] false, none, 65792, 1, []⟩,
   ⟨(some 5), .alloc [(.int .i64 0), (.int .i64 0), (.nil true 1)], none, 66048, 2, []⟩,
   ⟨none, .store 3 (.t 5) (.t 9), none, 66304, 3, []⟩])
 (.seq (.reg [⟨(some 10), .mv (.t 0), none, 131072, 0, []⟩,
   ⟨(some 11), .mv (.t 1), none, 131328, 1, []⟩,
   ⟨(some 12), .bin .add (.t 10) (.t 11), none, 131584, 2, []⟩,
   ⟨(some 13), .faddr 0 (.t 5), none, 131840, 3, []⟩,
   ⟨none, .store 1 (.t 13) (.t 12), none, 132096, 4, []⟩])
 (.seq (.seq (.reg [⟨(some 6), .mv (.k (.int .i64 0)), none, 196608, 0, []⟩])
 (.block 0 (.loop [0, 1, 4, 5, 6] [0, 3, 65792, 65793, 65794, 65795, 66048, 66051, 66305, 66306, 66307, 132097, 655617, 655618, 655619]
  (.seq (.seq (.reg [⟨(some 14), .mv (.t 6), none, 262144, 0, []⟩,
    ⟨(some 15), .mv (.t 1), none, 262400, 1, []⟩,
    ⟨(some 16), .bin .lss (.t 14) (.t 15), none, 262656, 2, []⟩])
  (.cond (.t 16)
   (.skip)
   (.exit 0)))
  (.seq (.block 1 (.seq (.reg [⟨(some 7), .mv (.k (.int .i64 0)), none, 393216, 0, []⟩])
  (.block 2 (.loop [0, 1, 4, 5, 6, 7] [0, 3, 65792, 65793, 65794, 65795, 66048, 66051, 66305, 66306, 66307, 132097, 655617, 655618, 655619]
   (.seq (.seq (.reg [⟨(some 19), .mv (.t 7), none, 458752, 0, []⟩,
     ⟨(some 20), .mv (.t 0), none, 459008, 1, []⟩,
     ⟨(some 21), .bin .lss (.t 19) (.t 20), none, 459264, 2, []⟩])
   (.cond (.t 21)
    (.skip)
    (.exit 2)))
   (.seq (.block 3 (.reg [⟨(some 24), .faddr 2 (.t 5), none, 589824, 0, []⟩,
     ⟨(some 25), .load 1 false (.t 24), none, 590080, 1, []⟩,
     ⟨(some 26), .mv (.t 0), none, 590336, 2, []⟩,
     ⟨(some 27), .mv (.t 6), none, 590592, 3, []⟩,
     ⟨(some 28), .bin .add (.t 26) (.t 27), none, 590848, 4, []⟩,
     ⟨(some 29), .mv (.t 0), none, 591104, 5, []⟩,
     ⟨(some 30), .mv (.t 6), none, 591360, 6, []⟩,
     ⟨(some 31), .bin .add (.t 29) (.t 30), none, 591616, 7, []⟩,
     ⟨(some 32), .mv (.t 7), none, 591872, 8, []⟩,
     ⟨(some 33), .bin .xor (.t 31) (.t 32), none, 592128, 9, []⟩,
     ⟨(some 34), .call 163 [(.t 33)] true, none, 592384, 10, []⟩,
     ⟨(some 35), .call 162 [(.t 28), (.t 34)] true, none, 592640, 11, []⟩,
     ⟨(some 36), .bslice true 1 [(.int .i64 0)] 1 [(0, (.t 35))], none, 592896, 12, []⟩,
     ⟨(some 37), .app true 1 8 (.t 25) (.t 36), none, 593152, 13, []⟩,
     ⟨(some 38), .faddr 2 (.t 5), none, 593408, 14, []⟩,
     ⟨none, .store 1 (.t 38) (.t 37), none, 593664, 15, []⟩]))
   (.reg [⟨(some 22), .mv (.t 7), none, 524288, 0, []⟩,
     ⟨(some 23), .bin .add (.t 22) (.k (.int .i64 1)), none, 524544, 1, []⟩,
     ⟨(some 7), .mv (.t 23), none, 524800, 2, []⟩])))))))
  (.reg [⟨(some 17), .mv (.t 6), none, 327680, 0, []⟩,
    ⟨(some 18), .bin .add (.t 17) (.k (.int .i64 1)), none, 327936, 1, []⟩,
    ⟨(some 6), .mv (.t 18), none, 328192, 2, []⟩]))))))
 (.seq (.reg [⟨(some 39), .load 3 true (.t 5), none, 655360, 0, []⟩,
   ⟨none, .store 3 (.t 4) (.t 39), none, 655616, 1, []⟩])
 (.ret)))))⟩
/-- (*loop.example/g00849/spec.l00Src).pick -/
def F134 : F := ⟨2, 20, [.t 4],
 .seq (.reg [⟨(some 4), .mv (.k (.int .i64 0)), none, 0, 0, []⟩])
 (.seq (.seq (.reg [⟨(some 6), .mv (.t 1), none, 65536, 0, []⟩,
   ⟨(some 7), .bin .leq (.t 6) (.k (.int .i64 1)), none, 65792, 1, []⟩])
 (.cond (.t 7)
  (.seq (.reg [⟨(some 4), .mv (.k (.int .i64 0)), none, 131072, 0, []⟩])
  (.ret))
  (.skip)))
 (.seq (.reg [⟨(some 8), .mv (.t 0), none, 196608, 0, []⟩,
   ⟨(some 9), .call 148 [(.t 8)] true, none, 196864, 1, []⟩,
   ⟨(some 5), .mv (.t 9), none, 197120, 2, []⟩])
 (.seq (.seq (.reg [⟨(some 10), .mv (.t 1), none, 262144, 0, []⟩,
   ⟨(some 11), .bin .gtr (.t 10) (.k (.int .i64 200)), none, 262400, 1, []⟩])
 (.cond (.t 11)
  (.reg [⟨(some 12), .mv (.t 5), none, 327680, 0, []⟩,
    ⟨(some 13), .bin .mul (.t 12) (.k (.int .i64 256)), none, 327936, 1, []⟩,
    ⟨(some 14), .mv (.t 0), none, 328192, 2, []⟩,
    ⟨(some 15), .call 148 [(.t 14)] true, none, 328448, 3, []⟩,
    ⟨(some 16), .bin .add (.t 13) (.t 15), none, 328704, 4, []⟩,
    ⟨(some 5), .mv (.t 16), none, 328960, 5, []⟩])
  (.skip)))
 (.seq (.reg [⟨(some 17), .mv (.t 5), none, 393216, 0, []⟩,
   ⟨(some 18), .mv (.t 1), none, 393472, 1, []⟩,
   ⟨(some 19), .bin .rem (.t 17) (.t 18), none, 393728, 2, []⟩,
   ⟨(some 4), .mv (.t 19), none, 393984, 3, []⟩])
 (.ret)))))⟩
/-- loop.example/g00849/spec.l05Tall -/
def F136 : F := ⟨3, 20, [.t 6],
 .seq (.reg [⟨(some 3), .box (.t 0), none, 0, 0, []⟩,
   ⟨(some 6), .mv (.k (.int .i64 0)), none, 256, 1, []⟩])
 (.seq (.reg [⟨(some 8), .faddr 0 (.t 3), none, 65536, 0, []⟩,
   ⟨(some 9), .load 1 false (.t 8), none, 65792, 1, []⟩,
   ⟨(some 10), .mv (.t 1), none, 66048, 2, []⟩,
   ⟨(some 11), .bin .mul (.t 9) (.t 10), none, 66304, 3, []⟩,
   ⟨(some 7), .mv (.t 11), none, 66560, 4, []⟩])
 (.seq (.reg [⟨(some 12), .mv (.t 2), none, 131072, 0, []⟩,
   ⟨(some 13), .mv (.t 7), none, 131328, 1, []⟩,
   ⟨(some 14), .bin .add (.t 12) (.t 13), none, 131584, 2, []⟩,
   ⟨(some 15), .bin .sub (.t 14) (.k (.int .i64 1)), none, 131840, 3, []⟩,
   ⟨(some 16), .mv (.t 7), none, 132096, 4, []⟩,
   ⟨(some 17), .bin .quo (.t 15) (.t 16), none, 132352, 5, []⟩,
   ⟨(some 18), .mv (.t 1), none, 132608, 6, []⟩,
   ⟨(some 19), .bin .mul (.t 17) (.t 18), none, 132864, 7, []⟩,
   ⟨(some 6), .mv (.t 19), none, 133120, 8, []⟩])
 (.ret)))⟩
/-- slices.IndexFunc[[]string,string] -/
def F138 : F := ⟨2, 19, [.t 4],
 .seq (.reg [⟨(some 4), .mv (.k (.int .i64 0)), none, 0, 0, []⟩])
 (.seq (.seq (.reg [⟨(some 6), .mv (.t 0), none, 65536, 0, []⟩,
   ⟨(some 7), .len false (.t 6), none, 65792, 1, []⟩,
   ⟨(some 8), .mv (.k (.int .i64 0)), none, 66048, 2, []⟩])
 (.block 0 (.loop [0, 1, 7, 8] []
  (.seq (.reg [⟨(some 9), .bin .lss (.t 8) (.t 7), none, 131072, 0, []⟩])
  (.seq (.cond (.t 9)
   (.skip)
   (.exit 0))
  (.seq (.block 1 (.seq (.reg [⟨(some 10), .mv (.t 8), none, 196608, 0, []⟩,
    ⟨(some 5), .mv (.t 10), none, 196864, 1, []⟩])
  (.seq (.reg [⟨(some 11), .mv (.t 1), none, 262144, 0, []⟩,
    ⟨(some 12), .mv (.t 0), none, 262400, 1, []⟩,
    ⟨(some 13), .mv (.t 5), none, 262656, 2, []⟩,
    ⟨(some 14), .iaddr 1 (.t 12) (.t 13), none, 262912, 3, []⟩,
    ⟨(some 15), .load 1 false (.t 14), none, 263168, 4, []⟩,
    ⟨(some 16), .callv (.t 11) [(.t 15)] true, none, 263424, 5, []⟩])
  (.cond (.t 16)
   (.seq (.reg [⟨(some 17), .mv (.t 5), none, 327680, 0, []⟩,
     ⟨(some 4), .mv (.t 17), none, 327936, 1, []⟩])
   (.ret))
   (.skip)))))
  (.reg [⟨(some 18), .bin .add (.t 8) (.k (.int .i64 1)), none, 393216, 0, []⟩,
    ⟨(some 8), .mv (.t 18), none, 393472, 1, []⟩])))))))
 (.seq (.reg [⟨(some 4), .mv (.k (.int .i64 (-1))), none, 458752, 0, []⟩])
 (.ret)))⟩
/-- loop.example/g00849/spec.l05Cell -/
def F139 : F := ⟨2, 32, [.t 4, .t 5],
 .seq (.reg [⟨(some 2), .box (.t 0), none, 0, 0, []⟩,
   ⟨(some 4), .mv (.k (.int .i64 0)), none, 256, 1, []⟩,
   ⟨(some 5), .mv (.k (.int .i64 0)), none, 512, 2, []⟩])
 (.seq (.reg [⟨(some 8), .faddr 0 (.t 2), none, 65536, 0, []⟩,
   ⟨(some 9), .faddr 0 (.t 8), none, 65792, 1, []⟩,
   ⟨(some 10), .load 1 false (.t 9), none, 66048, 2, []⟩,
   ⟨(some 11), .faddr 2 (.t 2), none, 66304, 3, []⟩,
   ⟨(some 12), .load 1 false (.t 11), none, 66560, 4, []⟩,
   ⟨(some 13), .bin .mul (.t 10) (.t 12), none, 66816, 5, []⟩,
   ⟨(some 6), .mv (.t 13), none, 67072, 6, []⟩])
 (.seq (.reg [⟨(some 14), .mv (.t 1), none, 131072, 0, []⟩,
   ⟨(some 15), .mv (.t 6), none, 131328, 1, []⟩,
   ⟨(some 16), .bin .rem (.t 14) (.t 15), none, 131584, 2, []⟩,
   ⟨(some 7), .mv (.t 16), none, 131840, 3, []⟩])
 (.seq (.reg [⟨(some 17), .mv (.t 7), none, 196608, 0, []⟩,
   ⟨(some 18), .faddr 2 (.t 2), none, 196864, 1, []⟩,
   ⟨(some 19), .load 1 false (.t 18), none, 197120, 2, []⟩,
   ⟨(some 20), .bin .quo (.t 17) (.t 19), none, 197376, 3, []⟩,
   ⟨(some 21), .mv (.t 1), none, 197632, 4, []⟩,
   ⟨(some 22), .mv (.t 6), none, 197888, 5, []⟩,
   ⟨(some 23), .bin .quo (.t 21) (.t 22), none, 198144, 6, []⟩,
   ⟨(some 24), .faddr 2 (.t 2), none, 198400, 7, []⟩,
   ⟨(some 25), .load 1 false (.t 24), none, 198656, 8, []⟩,
   ⟨(some 26), .bin .mul (.t 23) (.t 25), none, 198912, 9, []⟩,
   ⟨(some 27), .mv (.t 7), none, 199168, 10, []⟩,
   ⟨(some 28), .faddr 2 (.t 2), none, 199424, 11, []⟩,
   ⟨(some 29), .load 1 false (.t 28), none, 199680, 12, []⟩,
   ⟨(some 30), .bin .rem (.t 27) (.t 29), none, 199936, 13, []⟩,
   ⟨(some 31), .bin .add (.t 26) (.t 30), none, 200192, 14, []⟩,
   ⟨(some 4), .mv (.t 20), none, 200448, 15, []⟩,
   ⟨(some 5), .mv (.t 31), none, 200704, 16, []⟩])
 (.ret))))⟩
/-- slices.ContainsFunc[[]int64,int64] -/
def F140 : F := ⟨2, 9, [.t 4],
 .seq (.reg [⟨(some 4), .mv (.k (.bool false)), none, 0, 0, []⟩])
 (.seq (.reg [⟨(some 5), .mv (.t 0), none, 65536, 0, []⟩,
   ⟨(some 6), .mv (.t 1), none, 65792, 1, []⟩,
   ⟨(some 7), .call 167 [(.t 5), (.t 6)] true, none, 66048, 2, []⟩,
   ⟨(some 8), .bin .geq (.t 7) (.k (.int .i64 0)), none, 66304, 3, []⟩,
   ⟨(some 4), .mv (.t 8), none, 66560, 4, []⟩])
 (.ret))⟩
/-- loop.example/g00849/impl.allBetween$1 -/
def F141 : F := ⟨3, 10, [.t 4],
 .seq (.reg [⟨(some 4), .mv (.k (.bool false)), none, 0, 0, []⟩])
 (.seq (.reg [⟨(some 5), .mv (.t 0), none, 65536, 0, []⟩,
   ⟨(some 6), .load 1 false (.t 1), none, 65792, 1, []⟩,
   ⟨(some 7), .load 1 false (.t 2), none, 66048, 2, []⟩,
   ⟨(some 8), .call 86 [(.t 5), (.t 6), (.t 7)] true, none, 66304, 3, []⟩,
   ⟨(some 9), .not (.t 8), none, 66560, 4, []⟩,
   ⟨(some 4), .mv (.t 9), none, 66816, 5, []⟩])
 (.ret))⟩
/-- slices.Index[[]int64,int64] -/
def F142 : F := ⟨2, 19, [.t 4],
 .seq (.reg [⟨(some 4), .mv (.k (.int .i64 0)), none, 0, 0, []⟩])
 (.seq (.seq (.reg [⟨(some 6), .mv (.t 0), none, 65536, 0, []⟩,
   ⟨(some 7), .len false (.t 6), none, 65792, 1, []⟩,
   ⟨(some 8), .mv (.k (.int .i64 0)), none, 66048, 2, []⟩])
 (.block 0 (.loop [0, 1, 7, 8] []
  (.seq (.reg [⟨(some 9), .bin .lss (.t 8) (.t 7), none, 131072, 0, []⟩])
  (.seq (.cond (.t 9)
   (.skip)
   (.exit 0))
  (.seq (.block 1 (.seq (.reg [⟨(some 10), .mv (.t 8), none, 196608, 0, []⟩,
    ⟨(some 5), .mv (.t 10), none, 196864, 1, []⟩])
  (.seq (.reg [⟨(some 11), .mv (.t 1), none, 262144, 0, []⟩,
    ⟨(some 12), .mv (.t 0), none, 262400, 1, []⟩,
    ⟨(some 13), .mv (.t 5), none, 262656, 2, []⟩,
    ⟨(some 14), .iaddr 1 (.t 12) (.t 13), none, 262912, 3, []⟩,
    ⟨(some 15), .load 1 false (.t 14), none, 263168, 4, []⟩,
    ⟨(some 16), .bin .eql (.t 11) (.t 15), none, 263424, 5, []⟩])
  (.cond (.t 16)
   (.seq (.reg [⟨(some 17), .mv (.t 5), none, 327680, 0, []⟩,
     ⟨(some 4), .mv (.t 17), none, 327936, 1, []⟩])
   (.ret))
   (.skip)))))
  (.reg [⟨(some 18), .bin .add (.t 8) (.k (.int .i64 1)), none, 393216, 0, []⟩,
    ⟨(some 8), .mv (.t 18), none, 393472, 1, []⟩])))))))
 (.seq (.reg [⟨(some 4), .mv (.k (.int .i64 (-1))), none, 458752, 0, []⟩])
 (.ret)))⟩
/-- loop.example/g00849/spec.l00Has -/
def F143 : F := ⟨2, 18, [.t 4],
 .seq (.reg [⟨(some 4), .mv (.k (.bool false)), none, 0, 0, []⟩])
 (.seq (.seq (.reg [⟨(some 5), .mv (.k (.int .i64 0)), none, 65536, 0, []⟩])
 (.block 0 (.loop [0, 1, 5] []
  (.seq (.seq (.reg [⟨(some 6), .mv (.t 5), none, 131072, 0, []⟩,
    ⟨(some 7), .mv (.t 0), none, 131328, 1, []⟩,
    ⟨(some 8), .len false (.t 7), none, 131584, 2, []⟩,
    ⟨(some 9), .bin .lss (.t 6) (.t 8), none, 131840, 3, []⟩])
  (.cond (.t 9)
   (.skip)
   (.exit 0)))
  (.seq (.block 1 (.seq (.reg [⟨(some 12), .mv (.t 0), none, 262144, 0, []⟩,
    ⟨(some 13), .mv (.t 5), none, 262400, 1, []⟩,
    ⟨(some 14), .iaddr 1 (.t 12) (.t 13), none, 262656, 2, []⟩,
    ⟨(some 15), .load 1 false (.t 14), none, 262912, 3, []⟩,
    ⟨(some 16), .mv (.t 1), none, 263168, 4, []⟩,
    ⟨(some 17), .bin .eql (.t 15) (.t 16), none, 263424, 5, []⟩])
  (.cond (.t 17)
   (.seq (.reg [⟨(some 4), .mv (.k (.bool true)), none, 327680, 0, []⟩])
   (.ret))
   (.skip))))
  (.reg [⟨(some 10), .mv (.t 5), none, 196608, 0, []⟩,
    ⟨(some 11), .bin .add (.t 10) (.k (.int .i64 1)), none, 196864, 1, []⟩,
    ⟨(some 5), .mv (.t 11), none, 197120, 2, []⟩]))))))
 (.seq (.reg [⟨(some 4), .mv (.k (.bool false)), none, 393216, 0, []⟩])
 (.ret)))⟩
/-- loop.example/g00849/spec.l02Sum -/
def F146 : F := ⟨2, 26, [.t 4],
 .seq (.reg [⟨(some 4), .mv (.k (.str ByteArray.empty)), none, 0, 0, []⟩])
 (.seq (.reg [⟨(some 7), .bslice true 1 [(.int .u8 0)] 0 [], none, 65536, 0, []⟩,
   ⟨(some 5), .mv (.t 7), none, 65792, 1, []⟩])
 (.seq (.seq (.reg [⟨(some 6), .mv (.k (.int .i64 0)), none, 131072, 0, []⟩])
 (.block 0 (.loop [0, 1, 5, 6] [65536]
  (.seq (.seq (.reg [⟨(some 8), .mv (.t 6), none, 196608, 0, []⟩,
    ⟨(some 9), .mv (.t 0), none, 196864, 1, []⟩,
    ⟨(some 10), .len true (.t 9), none, 197120, 2, []⟩,
    ⟨(some 11), .bin .lss (.t 8) (.t 10), none, 197376, 3, []⟩])
  (.cond (.t 11)
   (.skip)
   (.exit 0)))
  (.seq (.block 1 (.reg [⟨(some 14), .mv (.t 5), none, 327680, 0, []⟩,
    ⟨(some 15), .mv (.t 0), none, 327936, 1, []⟩,
    ⟨(some 16), .mv (.t 6), none, 328192, 2, []⟩,
    ⟨(some 17), .idx (.t 15) (.t 16), none, 328448, 3, []⟩,
    ⟨(some 18), .mv (.t 1), none, 328704, 4, []⟩,
    ⟨(some 19), .mv (.t 6), none, 328960, 5, []⟩,
    ⟨(some 20), .idx (.t 18) (.t 19), none, 329216, 6, []⟩,
    ⟨(some 21), .bin .xor (.t 17) (.t 20), none, 329472, 7, []⟩,
    ⟨(some 22), .bslice true 1 [(.int .u8 0)] 1 [(0, (.t 21))], none, 329728, 8, []⟩,
    ⟨(some 23), .app true 1 1 (.t 14) (.t 22), none, 329984, 9, []⟩,
    ⟨(some 5), .mv (.t 23), none, 330240, 10, []⟩]))
  (.reg [⟨(some 12), .mv (.t 6), none, 262144, 0, []⟩,
    ⟨(some 13), .bin .add (.t 12) (.k (.int .i64 1)), none, 262400, 1, []⟩,
    ⟨(some 6), .mv (.t 13), none, 262656, 2, []⟩]))))))
 (.seq (.reg [⟨(some 24), .mv (.t 5), none, 393216, 0, []⟩,
   ⟨(some 25), .b2s (.t 24), none, 393472, 1, []⟩,
   ⟨(some 4), .mv (.t 25), none, 393728, 2, []⟩])
 (.ret))))⟩
/-- loop.example/g00849/impl.summed -/
def F147 : F := ⟨2, 28, [.t 4],
 .seq (.reg [⟨(some 4), .mv (.k (.str ByteArray.empty)), none, 0, 0, []⟩])
 (.seq (.reg [⟨(some 7), .mv (.t 0), none, 65536, 0, []⟩,
   ⟨(some 8), .len true (.t 7), none, 65792, 1, []⟩,
   ⟨(some 9), .mksl true 1 1 [(.int .u8 0)] (.t 8) (.t 8), none, 66048, 2, []⟩,
   ⟨(some 5), .mv (.t 9), none, 66304, 3, []⟩])
 (.seq (.seq (.reg [⟨(some 10), .mv (.t 5), none, 131072, 0, []⟩,
   ⟨(some 11), .len false (.t 10), none, 131328, 1, []⟩,
   ⟨(some 12), .mv (.k (.int .i64 0)), none, 131584, 2, []⟩])
 (.block 0 (.loop [0, 1, 5, 11, 12] [66048]
  (.seq (.reg [⟨(some 13), .bin .lss (.t 12) (.t 11), none, 196608, 0, []⟩])
  (.seq (.cond (.t 13)
   (.skip)
   (.exit 0))
  (.seq (.block 1 (.seq (.reg [⟨(some 14), .mv (.t 12), none, 262144, 0, []⟩,
    ⟨(some 6), .mv (.t 14), none, 262400, 1, []⟩])
  (.reg [⟨(some 15), .mv (.t 5), none, 327680, 0, []⟩,
    ⟨(some 16), .mv (.t 6), none, 327936, 1, []⟩,
    ⟨(some 17), .mv (.t 0), none, 328192, 2, []⟩,
    ⟨(some 18), .mv (.t 6), none, 328448, 3, []⟩,
    ⟨(some 19), .idx (.t 17) (.t 18), none, 328704, 4, []⟩,
    ⟨(some 20), .mv (.t 1), none, 328960, 5, []⟩,
    ⟨(some 21), .mv (.t 6), none, 329216, 6, []⟩,
    ⟨(some 22), .idx (.t 20) (.t 21), none, 329472, 7, []⟩,
    ⟨(some 23), .bin .xor (.t 19) (.t 22), none, 329728, 8, []⟩,
    ⟨(some 24), .iaddr 1 (.t 15) (.t 16), none, 329984, 9, []⟩,
    ⟨none, .store 1 (.t 24) (.t 23), none, 330240, 10, []⟩])))
  (.reg [⟨(some 25), .bin .add (.t 12) (.k (.int .i64 1)), none, 393216, 0, []⟩,
    ⟨(some 12), .mv (.t 25), none, 393472, 1, []⟩])))))))
 (.seq (.reg [⟨(some 26), .mv (.t 5), none, 458752, 0, []⟩,
   ⟨(some 27), .b2s (.t 26), none, 459008, 1, []⟩,
   ⟨(some 4), .mv (.t 27), none, 459264, 2, []⟩])
 (.ret))))⟩
/-- (*loop.example/g00849/spec.l00Src).next -/
def F148 : F := ⟨1, 62, [.t 2],
 .seq (.reg [⟨(some 2), .mv (.k (.int .i64 0)), none, 0, 0, []⟩])
 (.seq (.reg [⟨(some 3), .mv (.k (.int .i64 0)), none, 65536, 0, []⟩])
 (.seq (.seq (.reg [⟨(some 4), .mv (.t 0), none, 131072, 0, []⟩,
   ⟨(some 5), .nilck (.t 4), none, 131328, 1, []⟩,
   ⟨(some 6), .faddr 1 (.t 5), none, 131584, 2, []⟩,
   ⟨(some 7), .load 1 false (.t 6), none, 131840, 3, []⟩,
   ⟨(some 8), .mv (.t 0), none, 132096, 4, []⟩,
   ⟨(some 9), .nilck (.t 8), none, 132352, 5, []⟩,
   ⟨(some 10), .faddr 0 (.t 9), none, 132608, 6, []⟩,
   ⟨(some 11), .load 1 false (.t 10), none, 132864, 7, []⟩,
   ⟨(some 12), .len false (.t 11), none, 133120, 8, []⟩,
   ⟨(some 13), .bin .lss (.t 7) (.t 12), none, 133376, 9, []⟩])
 (.cond (.t 13)
  (.reg [⟨(some 14), .mv (.t 0), none, 196608, 0, []⟩,
    ⟨(some 15), .nilck (.t 14), none, 196864, 1, []⟩,
    ⟨(some 16), .faddr 0 (.t 15), none, 197120, 2, []⟩,
    ⟨(some 17), .load 1 false (.t 16), none, 197376, 3, []⟩,
    ⟨(some 18), .mv (.t 0), none, 197632, 4, []⟩,
    ⟨(some 19), .nilck (.t 18), none, 197888, 5, []⟩,
    ⟨(some 20), .faddr 1 (.t 19), none, 198144, 6, []⟩,
    ⟨(some 21), .load 1 false (.t 20), none, 198400, 7, []⟩,
    ⟨(some 22), .iaddr 1 (.t 17) (.t 21), none, 198656, 8, []⟩,
    ⟨(some 23), .load 1 false (.t 22), none, 198912, 9, []⟩,
    ⟨(some 24), .conv .i64 (.t 23), none, 199168, 10, []⟩,
    ⟨(some 3), .mv (.t 24), none, 199424, 11, []⟩])
  (.skip)))
 (.seq (.reg [⟨(some 25), .mv (.t 0), none, 262144, 0, []⟩,
   ⟨(some 26), .nilck (.t 25), none, 262400, 1, []⟩,
   ⟨(some 27), .faddr 1 (.t 26), none, 262656, 2, []⟩,
   ⟨(some 28), .load 1 false (.t 27), none, 262912, 3, []⟩,
   ⟨(some 29), .bin .add (.t 28) (.k (.int .i64 1)), none, 263168, 4, []⟩,
   ⟨(some 30), .nilck (.t 25), none, 263424, 5, []⟩,
   ⟨(some 31), .faddr 1 (.t 30), none, 263680, 6, []⟩,
   ⟨none, .store 1 (.t 31) (.t 29), none, 263936, 7, []⟩])
 (.seq (.reg [⟨(some 32), .mv (.t 0), none, 327680, 0, []⟩,
   ⟨(some 33), .mv (.t 0), none, 327936, 1, []⟩,
   ⟨(some 34), .nilck (.t 33), none, 328192, 2, []⟩,
   ⟨(some 35), .faddr 2 (.t 34), none, 328448, 3, []⟩,
   ⟨(some 36), .load 1 false (.t 35), none, 328704, 4, []⟩,
   ⟨(some 37), .bin .mul (.t 36) (.k (.int .u64 6364136223846793005)), none, 328960, 5, []⟩,
   ⟨(some 38), .mv (.t 3), none, 329216, 6, []⟩,
   ⟨(some 39), .conv .u64 (.t 38), none, 329472, 7, []⟩,
   ⟨(some 40), .bin .add (.t 37) (.t 39), none, 329728, 8, []⟩,
   ⟨(some 41), .bin .add (.t 40) (.k (.int .u64 1442695040888963407)), none, 329984, 9, []⟩,
   ⟨(some 42), .nilck (.t 32), none, 330240, 10, []⟩,
   ⟨(some 43), .faddr 2 (.t 42), none, 330496, 11, []⟩,
   ⟨none, .store 1 (.t 43) (.t 41), none, 330752, 12, []⟩])
 (.seq (.seq (.reg [⟨(some 44), .mv (.t 0), none, 393216, 0, []⟩,
   ⟨(some 45), .nilck (.t 44), none, 393472, 1, []⟩,
   ⟨(some 46), .faddr 1 (.t 45), none, 393728, 2, []⟩,
   ⟨(some 47), .load 1 false (.t 46), none, 393984, 3, []⟩,
   ⟨(some 48), .mv (.t 0), none, 394240, 4, []⟩,
   ⟨(some 49), .nilck (.t 48), none, 394496, 5, []⟩,
   ⟨(some 50), .faddr 0 (.t 49), none, 394752, 6, []⟩,
   ⟨(some 51), .load 1 false (.t 50), none, 395008, 7, []⟩,
   ⟨(some 52), .len false (.t 51), none, 395264, 8, []⟩,
   ⟨(some 53), .bin .leq (.t 47) (.t 52), none, 395520, 9, []⟩])
 (.cond (.t 53)
  (.seq (.reg [⟨(some 54), .mv (.t 3), none, 458752, 0, []⟩,
    ⟨(some 2), .mv (.t 54), none, 459008, 1, []⟩])
  (.ret))
  (.skip)))
 (.seq (.reg [⟨(some 55), .mv (.t 0), none, 524288, 0, []⟩,
   ⟨(some 56), .nilck (.t 55), none, 524544, 1, []⟩,
   ⟨(some 57), .faddr 2 (.t 56), none, 524800, 2, []⟩,
   ⟨(some 58), .load 1 false (.t 57), none, 525056, 3, []⟩,
   ⟨(some 59), .bin .shr (.t 58) (.k (.int .u64 40)), none, 525312, 4, []⟩,
   ⟨(some 60), .bin .and (.t 59) (.k (.int .u64 255)), none, 525568, 5, []⟩,
   ⟨(some 61), .conv .i64 (.t 60), none, 525824, 6, []⟩,
   ⟨(some 2), .mv (.t 61), none, 526080, 7, []⟩])
 (.ret)))))))⟩
/-- loop.example/g00849/spec.l03Inv -/
def F149 : F := ⟨1, 60, [.cell 2 3 true, .t 3],
 .seq (.reg [⟨(some 1), .box (.t 0), none, 0, 0, []⟩,
   ⟨(some 2), .alloc [(.int .i64 0), (.int .i64 0), (.nil true 1)], none, 256, 1, []⟩,
   ⟨(some 3), .mv (.k (.bool false)), none, 512, 2, []⟩])
 (.seq (.reg [⟨(some 9), .faddr 1 (.t 1), none, 65536, 0, []⟩,
   ⟨(some 10), .load 1 false (.t 9), none, 65792, 1, []⟩,
   ⟨(some 4), .mv (.t 10), none, 66048, 2, []⟩])
 (.seq (.reg [⟨(some 11), .faddr 2 (.t 1), none, 131072, 0, []⟩,
   ⟨(some 12), .load 1 false (.t 11), none, 131328, 1, []⟩,
   ⟨(some 13), .call 168 [(.t 12)] false, none, 131584, 2, []⟩,
   ⟨(some 5), .mv (.t 13), none, 131840, 3, []⟩])
 (.seq (.reg [⟨(some 14), .mv (.t 4), none, 196608, 0, []⟩,
   ⟨(some 15), .call 161 [(.t 14)] false, none, 196864, 1, []⟩,
   ⟨(some 6), .alloc [(.int .i64 0), (.int .i64 0), (.nil true 1)], none, 197120, 2, []⟩,
   ⟨none, .store 3 (.t 6) (.t 15), none, 197376, 3, []⟩])
 (.seq (.seq (.reg [⟨(some 7), .mv (.k (.int .i64 0)), none, 262144, 0, []⟩])
 (.block 0 (.loop [2, 4, 5, 6, 7] [0, 1, 2, 3, 4, 5, 256, 259, 131584, 131585, 131586, 131587, 196864, 196865, 196866, 196867, 197120, 197123, 197377, 197378, 197379, 983297, 983298, 983299]
  (.seq (.seq (.reg [⟨(some 16), .mv (.t 7), none, 327680, 0, []⟩,
    ⟨(some 17), .mv (.t 4), none, 327936, 1, []⟩,
    ⟨(some 18), .bin .lss (.t 16) (.t 17), none, 328192, 2, []⟩])
  (.cond (.t 18)
   (.skip)
   (.exit 0)))
  (.seq (.block 1 (.seq (.reg [⟨(some 21), .mv (.t 7), none, 458752, 0, []⟩,
    ⟨(some 8), .mv (.t 21), none, 459008, 1, []⟩])
  (.seq (.block 2 (.loop [2, 4, 5, 6, 7, 8] [0, 1, 2, 3, 4, 5, 256, 259, 131584, 131585, 131586, 131587, 196864, 196865, 196866, 196867, 197120, 197123, 197377, 197378, 197379, 721153, 721154, 721155, 983297, 983298, 983299]
   (.seq (.seq (.reg [⟨(some 22), .mv (.t 8), none, 524288, 0, []⟩,
     ⟨(some 23), .mv (.t 4), none, 524544, 1, []⟩,
     ⟨(some 24), .bin .lss (.t 22) (.t 23), none, 524800, 2, []⟩,
     ⟨(some 25), .mv (.t 24), none, 525056, 3, []⟩,
     ⟨(some 26), .mv (.t 5), (some (some 25, true)), 525312, 4, []⟩,
     ⟨(some 27), .mv (.t 8), (some (some 25, true)), 525568, 5, []⟩,
     ⟨(some 28), .mv (.t 4), (some (some 25, true)), 525824, 6, []⟩,
     ⟨(some 29), .bin .mul (.t 27) (.t 28), (some (some 25, true)), 526080, 7, []⟩,
     ⟨(some 30), .mv (.t 7), (some (some 25, true)), 526336, 8, []⟩,
     ⟨(some 31), .bin .add (.t 29) (.t 30), (some (some 25, true)), 526592, 9, []⟩,
     ⟨(some 32), .iaddr 1 (.t 26) (.t 31), (some (some 25, true)), 526848, 10, []⟩,
     ⟨(some 33), .load 1 false (.t 32), (some (some 25, true)), 527104, 11, []⟩,
     ⟨(some 34), .bin .eql (.t 33) (.k (.int .i64 0)), (some (some 25, true)), 527360, 12, []⟩,
     ⟨(some 35), .pick (.t 25) (.t 34) (.k (.bool false)), none, 527616, 13, []⟩])
   (.cond (.t 35)
    (.skip)
    (.exit 2)))
   (.block 3 (.reg [⟨(some 36), .mv (.t 8), none, 589824, 0, []⟩,
     ⟨(some 37), .bin .add (.t 36) (.k (.int .i64 1)), none, 590080, 1, []⟩,
     ⟨(some 8), .mv (.t 37), none, 590336, 2, []⟩])))))
  (.seq (.seq (.reg [⟨(some 38), .mv (.t 8), none, 655360, 0, []⟩,
    ⟨(some 39), .mv (.t 4), none, 655616, 1, []⟩,
    ⟨(some 40), .bin .eql (.t 38) (.t 39), none, 655872, 2, []⟩])
  (.cond (.t 40)
   (.seq (.reg [⟨(some 41), .build [(.int .i64 0), (.int .i64 0), (.nil true 1)] [], none, 720896, 0, []⟩,
     ⟨none, .store 3 (.t 2) (.t 41), none, 721152, 1, []⟩,
     ⟨(some 3), .mv (.k (.bool false)), none, 721408, 2, []⟩])
   (.ret))
   (.skip)))
  (.seq (.reg [⟨(some 42), .mv (.t 5), none, 786432, 0, []⟩,
    ⟨(some 43), .mv (.t 4), none, 786688, 1, []⟩,
    ⟨(some 44), .mv (.t 7), none, 786944, 2, []⟩,
    ⟨(some 45), .mv (.t 8), none, 787200, 3, []⟩,
    ⟨(some 46), .call 169 [(.t 42), (.t 43), (.t 44), (.t 45)] true, none, 787456, 4, []⟩])
  (.seq (.reg [⟨(some 47), .faddr 2 (.t 6), none, 851968, 0, []⟩,
    ⟨(some 48), .load 1 false (.t 47), none, 852224, 1, []⟩,
    ⟨(some 49), .mv (.t 4), none, 852480, 2, []⟩,
    ⟨(some 50), .mv (.t 7), none, 852736, 3, []⟩,
    ⟨(some 51), .mv (.t 8), none, 852992, 4, []⟩,
    ⟨(some 52), .call 169 [(.t 48), (.t 49), (.t 50), (.t 51)] true, none, 853248, 5, []⟩])
  (.reg [⟨(some 53), .mv (.t 5), none, 917504, 0, []⟩,
    ⟨(some 54), .faddr 2 (.t 6), none, 917760, 1, []⟩,
    ⟨(some 55), .load 1 false (.t 54), none, 918016, 2, []⟩,
    ⟨(some 56), .mv (.t 4), none, 918272, 3, []⟩,
    ⟨(some 57), .mv (.t 7), none, 918528, 4, []⟩,
    ⟨(some 58), .call 170 [(.t 53), (.t 55), (.t 56), (.t 57)] true, none, 918784, 5, []⟩])))))))
  (.reg [⟨(some 19), .mv (.t 7), none, 393216, 0, []⟩,
    ⟨(some 20), .bin .add (.t 19) (.k (.int .i64 1)), none, 393472, 1, []⟩,
    ⟨(some 7), .mv (.t 20), none, 393728, 2, []⟩]))))))
 (.seq (.reg [⟨(some 59), .load 3 true (.t 6), none, 983040, 0, []⟩,
   ⟨none, .store 3 (.t 2) (.t 59), none, 983296, 1, []⟩,
   ⟨(some 3), .mv (.k (.bool true)), none, 983552, 2, []⟩])
 (.ret))))))⟩
/-- loop.example/g00849/spec.l03Rows -/
def F150 : F := ⟨2, 41, [.cell 4 3 true],
 .seq (.reg [⟨(some 2), .box (.t 0), none, 0, 0, []⟩,
   ⟨(some 4), .alloc [(.int .i64 0), (.int .i64 0), (.nil true 1)], none, 256, 1, []⟩])
 (.seq (.reg [⟨(some 7), .mv (.t 1), none, 65536, 0, []⟩,
   ⟨(some 8), .len false (.t 7), none, 65792, 1, []⟩,
   ⟨(some 9), .faddr 1 (.t 2), none, 66048, 2, []⟩,
   ⟨(some 10), .load 1 false (.t 9), none, 66304, 3, []⟩,
   ⟨(some 11), .build [(.int .i64 0), (.int .i64 0), (.nil true 1)] [(0, 1, (.t 8)), (1, 1, (.t 10))], none, 66560, 4, []⟩,
   ⟨(some 5), .alloc [(.int .i64 0), (.int .i64 0), (.nil true 1)], none, 66816, 5, []⟩,
   ⟨none, .store 3 (.t 5) (.t 11), none, 67072, 6, []⟩])
 (.seq (.seq (.reg [⟨(some 6), .mv (.k (.int .i64 0)), none, 131072, 0, []⟩])
 (.block 0 (.loop [1, 2, 4, 5, 6] [0, 1, 2, 3, 4, 5, 256, 259, 66816, 66819, 67073, 67074, 67075, 393473, 393474, 393475]
  (.seq (.seq (.reg [⟨(some 12), .mv (.t 6), none, 196608, 0, []⟩,
    ⟨(some 13), .mv (.t 1), none, 196864, 1, []⟩,
    ⟨(some 14), .len false (.t 13), none, 197120, 2, []⟩,
    ⟨(some 15), .bin .lss (.t 12) (.t 14), none, 197376, 3, []⟩])
  (.cond (.t 15)
   (.skip)
   (.exit 0)))
  (.seq (.block 1 (.reg [⟨(some 18), .faddr 2 (.t 5), none, 327680, 0, []⟩,
    ⟨(some 19), .load 1 false (.t 18), none, 327936, 1, []⟩,
    ⟨(some 20), .faddr 2 (.t 2), none, 328192, 2, []⟩,
    ⟨(some 21), .load 1 false (.t 20), none, 328448, 3, []⟩,
    ⟨(some 22), .mv (.t 1), none, 328704, 4, []⟩,
    ⟨(some 23), .mv (.t 6), none, 328960, 5, []⟩,
    ⟨(some 24), .iaddr 1 (.t 22) (.t 23), none, 329216, 6, []⟩,
    ⟨(some 25), .load 1 false (.t 24), none, 329472, 7, []⟩,
    ⟨(some 26), .faddr 1 (.t 2), none, 329728, 8, []⟩,
    ⟨(some 27), .load 1 false (.t 26), none, 329984, 9, []⟩,
    ⟨(some 28), .bin .mul (.t 25) (.t 27), none, 330240, 10, []⟩,
    ⟨(some 29), .mv (.t 1), none, 330496, 11, []⟩,
    ⟨(some 30), .mv (.t 6), none, 330752, 12, []⟩,
    ⟨(some 31), .iaddr 1 (.t 29) (.t 30), none, 331008, 13, []⟩,
    ⟨(some 32), .load 1 false (.t 31), none, 331264, 14, []⟩,
    ⟨(some 33), .bin .add (.t 32) (.k (.int .i64 1)), none, 331520, 15, []⟩,
    ⟨(some 34), .faddr 1 (.t 2), none, 331776, 16, []⟩,
    ⟨(some 35), .load 1 false (.t 34), none, 332032, 17, []⟩,
    ⟨(some 36), .bin .mul (.t 33) (.t 35), none, 332288, 18, []⟩,
    ⟨(some 37), .cut 1 (.t 21) (some (.t 28)) (some (.t 36)), none, 332544, 19, []⟩,
    ⟨(some 38), .app true 1 8 (.t 19) (.t 37), none, 332800, 20, []⟩,
    ⟨(some 39), .faddr 2 (.t 5), none, 333056, 21, []⟩,
    ⟨none, .store 1 (.t 39) (.t 38), none, 333312, 22, []⟩]))
  (.reg [⟨(some 16), .mv (.t 6), none, 262144, 0, []⟩,
    ⟨(some 17), .bin .add (.t 16) (.k (.int .i64 1)), none, 262400, 1, []⟩,
    ⟨(some 6), .mv (.t 17), none, 262656, 2, []⟩]))))))
 (.seq (.reg [⟨(some 40), .load 3 true (.t 5), none, 393216, 0, []⟩,
   ⟨none, .store 3 (.t 4) (.t 40), none, 393472, 1, []⟩])
 (.ret))))⟩
/-- slices.Clone[[]int64,int64] -/
def F153 : F := ⟨1, 8, [.t 2],
 .seq (.reg [⟨(some 2), .nil0 true 1, none, 0, 0, []⟩])
 (.seq (.seq (.reg [⟨(some 3), .mv (.t 0), none, 65536, 0, []⟩])
 (.ifnil false 4 (.t 3)
  (.seq (.reg [⟨(some 2), .nil0 true 1, none, 131072, 0, []⟩])
  (.ret))
  (.skip)))
 (.seq (.reg [⟨(some 5), .bslice true 1 [(.int .i64 0)] 0 [], none, 196608, 0, []⟩,
   ⟨(some 6), .mv (.t 0), none, 196864, 1, []⟩,
   ⟨(some 7), .app true 1 8 (.t 5) (.t 6), none, 197120, 2, []⟩,
   ⟨(some 2), .mv (.t 7), none, 197376, 3, []⟩])
 (.ret)))⟩
/-- loop.example/g00849/impl.unit -/
def F154 : F := ⟨1, 23, [.cell 2 3 true],
 .seq (.reg [⟨(some 2), .alloc [(.int .i64 0), (.int .i64 0), (.nil true 1)], none, 0, 0, []⟩])
 (.seq (.reg [⟨(some 5), .mv (.t 0), none, 65536, 0, []⟩,
   ⟨(some 6), .mv (.t 0), none, 65792, 1, []⟩,
   ⟨(some 7), .mv (.t 0), none, 66048, 2, []⟩,
   ⟨(some 8), .mv (.t 0), none, 66304, 3, []⟩,
   ⟨(some 9), .bin .mul (.t 7) (.t 8), none, 66560, 4, []⟩,
   ⟨(some 10), .mksl true 1 8 [(.int .i64 0)] (.t 9) (.t 9), none, 66816, 5, []⟩,
   ⟨(some 11), .build [(.int .i64 0), (.int .i64 0), (.nil true 1)] [(0, 1, (.t 5)), (1, 1, (.t 6)), (2, 1, (.t 10))], none, 67072, 6, []⟩,
   ⟨(some 3), .alloc [(.int .i64 0), (.int .i64 0), (.nil true 1)], none, 67328, 7, []⟩,
   ⟨none, .store 3 (.t 3) (.t 11), none, 67584, 8, []⟩])
 (.seq (.seq (.reg [⟨(some 12), .mv (.t 0), none, 131072, 0, []⟩,
   ⟨(some 13), .mv (.k (.int .i64 0)), none, 131328, 1, []⟩])
 (.block 0 (.loop [2, 3, 12, 13] [0, 3, 66816, 67328, 67331, 67585, 67586, 67587, 459009, 459010, 459011]
  (.seq (.reg [⟨(some 14), .bin .lss (.t 13) (.t 12), none, 196608, 0, []⟩])
  (.seq (.cond (.t 14)
   (.skip)
   (.exit 0))
  (.seq (.block 1 (.seq (.reg [⟨(some 15), .mv (.t 13), none, 262144, 0, []⟩,
    ⟨(some 4), .mv (.t 15), none, 262400, 1, []⟩])
  (.reg [⟨(some 16), .load 3 true (.t 3), none, 327680, 0, []⟩,
    ⟨(some 17), .mv (.t 4), none, 327936, 1, []⟩,
    ⟨(some 18), .call 155 [(.t 16), (.t 17)] false, none, 328192, 2, []⟩,
    ⟨(some 19), .mv (.t 4), none, 328448, 3, []⟩,
    ⟨(some 20), .iaddr 1 (.t 18) (.t 19), none, 328704, 4, []⟩,
    ⟨none, .store 1 (.t 20) (.k (.int .i64 1)), none, 328960, 5, []⟩])))
  (.reg [⟨(some 21), .bin .add (.t 13) (.k (.int .i64 1)), none, 393216, 0, []⟩,
    ⟨(some 13), .mv (.t 21), none, 393472, 1, []⟩])))))))
 (.seq (.reg [⟨(some 22), .load 3 true (.t 3), none, 458752, 0, []⟩,
   ⟨none, .store 3 (.t 2) (.t 22), none, 459008, 1, []⟩])
 (.ret))))⟩
/-- (loop.example/g00849/impl.Matrix).row -/
def F155 : F := ⟨2, 17, [.t 4],
 .seq (.reg [⟨(some 2), .box (.t 0), none, 0, 0, []⟩,
   ⟨(some 4), .nil0 true 1, none, 256, 1, []⟩])
 (.seq (.reg [⟨(some 5), .faddr 2 (.t 2), none, 65536, 0, []⟩,
   ⟨(some 6), .load 1 false (.t 5), none, 65792, 1, []⟩,
   ⟨(some 7), .mv (.t 1), none, 66048, 2, []⟩,
   ⟨(some 8), .faddr 1 (.t 2), none, 66304, 3, []⟩,
   ⟨(some 9), .load 1 false (.t 8), none, 66560, 4, []⟩,
   ⟨(some 10), .bin .mul (.t 7) (.t 9), none, 66816, 5, []⟩,
   ⟨(some 11), .mv (.t 1), none, 67072, 6, []⟩,
   ⟨(some 12), .bin .add (.t 11) (.k (.int .i64 1)), none, 67328, 7, []⟩,
   ⟨(some 13), .faddr 1 (.t 2), none, 67584, 8, []⟩,
   ⟨(some 14), .load 1 false (.t 13), none, 67840, 9, []⟩,
   ⟨(some 15), .bin .mul (.t 12) (.t 14), none, 68096, 10, []⟩,
   ⟨(some 16), .cut 1 (.t 6) (some (.t 10)) (some (.t 15)), none, 68352, 11, []⟩,
   ⟨(some 4), .mv (.t 16), none, 68608, 12, []⟩])
 (.ret))⟩
/-- loop.example/g00849/impl.addTo -/
def F156 : F := ⟨3, 25, [],
 .seq (.reg [⟨(some 8), .mv (.t 1), none, 0, 0, []⟩,
   ⟨(some 9), .len false (.t 8), none, 256, 1, []⟩,
   ⟨(some 10), .mv (.k (.int .i64 0)), none, 512, 2, []⟩])
 (.block 0 (.loop [0, 2, 8, 9, 10] []
  (.seq (.reg [⟨(some 11), .bin .lss (.t 10) (.t 9), none, 65536, 0, []⟩])
  (.seq (.cond (.t 11)
   (.skip)
   (.exit 0))
  (.seq (.block 1 (.seq (.reg [⟨(some 12), .mv (.t 10), none, 131072, 0, []⟩,
    ⟨(some 13), .iaddr 1 (.t 8) (.t 10), none, 131328, 1, []⟩,
    ⟨(some 14), .load 1 false (.t 13), none, 131584, 2, []⟩,
    ⟨(some 6), .mv (.t 12), none, 131840, 3, []⟩,
    ⟨(some 7), .mv (.t 14), none, 132096, 4, []⟩])
  (.reg [⟨(some 15), .mv (.t 0), none, 196608, 0, []⟩,
    ⟨(some 16), .mv (.t 6), none, 196864, 1, []⟩,
    ⟨(some 17), .iaddr 1 (.t 15) (.t 16), none, 197120, 2, []⟩,
    ⟨(some 18), .load 1 false (.t 17), none, 197376, 3, []⟩,
    ⟨(some 19), .mv (.t 2), none, 197632, 4, []⟩,
    ⟨(some 20), .mv (.t 7), none, 197888, 5, []⟩,
    ⟨(some 21), .call 158 [(.t 19), (.t 20)] true, none, 198144, 6, []⟩,
    ⟨(some 22), .bin .xor (.t 18) (.t 21), none, 198400, 7, []⟩,
    ⟨(some 23), .iaddr 1 (.t 15) (.t 16), none, 198656, 8, []⟩,
    ⟨none, .store 1 (.t 23) (.t 22), none, 198912, 9, []⟩])))
  (.reg [⟨(some 24), .bin .add (.t 10) (.k (.int .i64 1)), none, 262144, 0, []⟩,
    ⟨(some 10), .mv (.t 24), none, 262400, 1, []⟩]))))))⟩
/-- loop.example/g00849/impl.inverse -/
def F157 : F := ⟨1, 5, [.t 2],
 .seq (.reg [⟨(some 2), .mv (.k (.int .i64 0)), none, 0, 0, []⟩])
 (.seq (.reg [⟨(some 3), .mv (.t 0), none, 65536, 0, []⟩,
   ⟨(some 4), .call 173 [(.t 3), (.k (.int .i64 254))] true, none, 65792, 1, []⟩,
   ⟨(some 2), .mv (.t 4), none, 66048, 2, []⟩])
 (.ret))⟩
/-- loop.example/g00849/impl.times -/
def F158 : F := ⟨2, 19, [.t 4],
 .seq (.reg [⟨(some 4), .mv (.k (.int .i64 0)), none, 0, 0, []⟩])
 (.seq (.reg [⟨(some 5), .mv (.k (.int .i64 0)), none, 65536, 0, []⟩])
 (.seq (.block 0 (.loop [0, 1, 5] []
  (.seq (.seq (.reg [⟨(some 6), .mv (.t 1), none, 131072, 0, []⟩,
    ⟨(some 7), .bin .gtr (.t 6) (.k (.int .i64 0)), none, 131328, 1, []⟩])
  (.cond (.t 7)
   (.skip)
   (.exit 0)))
  (.seq (.block 1 (.seq (.seq (.reg [⟨(some 10), .mv (.t 1), none, 262144, 0, []⟩,
    ⟨(some 11), .bin .rem (.t 10) (.k (.int .i64 2)), none, 262400, 1, []⟩,
    ⟨(some 12), .bin .eql (.t 11) (.k (.int .i64 1)), none, 262656, 2, []⟩])
  (.cond (.t 12)
   (.reg [⟨(some 13), .mv (.t 5), none, 327680, 0, []⟩,
     ⟨(some 14), .mv (.t 0), none, 327936, 1, []⟩,
     ⟨(some 15), .bin .xor (.t 13) (.t 14), none, 328192, 2, []⟩,
     ⟨(some 5), .mv (.t 15), none, 328448, 3, []⟩])
   (.skip)))
  (.reg [⟨(some 16), .mv (.t 0), none, 393216, 0, []⟩,
    ⟨(some 17), .call 174 [(.t 16)] true, none, 393472, 1, []⟩,
    ⟨(some 0), .mv (.t 17), none, 393728, 2, []⟩])))
  (.reg [⟨(some 8), .mv (.t 1), none, 196608, 0, []⟩,
    ⟨(some 9), .bin .quo (.t 8) (.k (.int .i64 2)), none, 196864, 1, []⟩,
    ⟨(some 1), .mv (.t 9), none, 197120, 2, []⟩])))))
 (.seq (.reg [⟨(some 18), .mv (.t 5), none, 458752, 0, []⟩,
   ⟨(some 4), .mv (.t 18), none, 459008, 1, []⟩])
 (.ret))))⟩
/-- loop.example/g00849/impl.scaled -/
def F159 : F := ⟨2, 28, [.t 4],
 .seq (.reg [⟨(some 4), .mv (.k (.str ByteArray.empty)), none, 0, 0, []⟩])
 (.seq (.reg [⟨(some 7), .mv (.t 1), none, 65536, 0, []⟩,
   ⟨(some 8), .len true (.t 7), none, 65792, 1, []⟩,
   ⟨(some 9), .mksl true 1 1 [(.int .u8 0)] (.t 8) (.t 8), none, 66048, 2, []⟩,
   ⟨(some 5), .mv (.t 9), none, 66304, 3, []⟩])
 (.seq (.seq (.reg [⟨(some 10), .mv (.t 5), none, 131072, 0, []⟩,
   ⟨(some 11), .len false (.t 10), none, 131328, 1, []⟩,
   ⟨(some 12), .mv (.k (.int .i64 0)), none, 131584, 2, []⟩])
 (.block 0 (.loop [0, 1, 5, 11, 12] [66048]
  (.seq (.reg [⟨(some 13), .bin .lss (.t 12) (.t 11), none, 196608, 0, []⟩])
  (.seq (.cond (.t 13)
   (.skip)
   (.exit 0))
  (.seq (.block 1 (.seq (.reg [⟨(some 14), .mv (.t 12), none, 262144, 0, []⟩,
    ⟨(some 6), .mv (.t 14), none, 262400, 1, []⟩])
  (.reg [⟨(some 15), .mv (.t 5), none, 327680, 0, []⟩,
    ⟨(some 16), .mv (.t 6), none, 327936, 1, []⟩,
    ⟨(some 17), .mv (.t 0), none, 328192, 2, []⟩,
    ⟨(some 18), .mv (.t 1), none, 328448, 3, []⟩,
    ⟨(some 19), .mv (.t 6), none, 328704, 4, []⟩,
    ⟨(some 20), .idx (.t 18) (.t 19), none, 328960, 5, []⟩,
    ⟨(some 21), .conv .i64 (.t 20), none, 329216, 6, []⟩,
    ⟨(some 22), .call 158 [(.t 17), (.t 21)] true, none, 329472, 7, []⟩,
    ⟨(some 23), .conv .u8 (.t 22), none, 329728, 8, []⟩,
    ⟨(some 24), .iaddr 1 (.t 15) (.t 16), none, 329984, 9, []⟩,
    ⟨none, .store 1 (.t 24) (.t 23), none, 330240, 10, []⟩])))
  (.reg [⟨(some 25), .bin .add (.t 12) (.k (.int .i64 1)), none, 393216, 0, []⟩,
    ⟨(some 12), .mv (.t 25), none, 393472, 1, []⟩])))))))
 (.seq (.reg [⟨(some 26), .mv (.t 5), none, 458752, 0, []⟩,
   ⟨(some 27), .b2s (.t 26), none, 459008, 1, []⟩,
   ⟨(some 4), .mv (.t 27), none, 459264, 2, []⟩])
 (.ret))))⟩
/-- loop.example/g00849/spec.l02Scale -/
def F160 : F := ⟨2, 26, [.t 4],
 .seq (.reg [⟨(some 4), .mv (.k (.str ByteArray.empty)), none, 0, 0, []⟩])
 (.seq (.reg [⟨(some 7), .bslice true 1 [(.int .u8 0)] 0 [], none, 65536, 0, []⟩,
   ⟨(some 5), .mv (.t 7), none, 65792, 1, []⟩])
 (.seq (.seq (.reg [⟨(some 6), .mv (.k (.int .i64 0)), none, 131072, 0, []⟩])
 (.block 0 (.loop [0, 1, 5, 6] [65536]
  (.seq (.seq (.reg [⟨(some 8), .mv (.t 6), none, 196608, 0, []⟩,
    ⟨(some 9), .mv (.t 1), none, 196864, 1, []⟩,
    ⟨(some 10), .len true (.t 9), none, 197120, 2, []⟩,
    ⟨(some 11), .bin .lss (.t 8) (.t 10), none, 197376, 3, []⟩])
  (.cond (.t 11)
   (.skip)
   (.exit 0)))
  (.seq (.block 1 (.reg [⟨(some 14), .mv (.t 5), none, 327680, 0, []⟩,
    ⟨(some 15), .mv (.t 0), none, 327936, 1, []⟩,
    ⟨(some 16), .mv (.t 1), none, 328192, 2, []⟩,
    ⟨(some 17), .mv (.t 6), none, 328448, 3, []⟩,
    ⟨(some 18), .idx (.t 16) (.t 17), none, 328704, 4, []⟩,
    ⟨(some 19), .conv .i64 (.t 18), none, 328960, 5, []⟩,
    ⟨(some 20), .call 162 [(.t 15), (.t 19)] true, none, 329216, 6, []⟩,
    ⟨(some 21), .conv .u8 (.t 20), none, 329472, 7, []⟩,
    ⟨(some 22), .bslice true 1 [(.int .u8 0)] 1 [(0, (.t 21))], none, 329728, 8, []⟩,
    ⟨(some 23), .app true 1 1 (.t 14) (.t 22), none, 329984, 9, []⟩,
    ⟨(some 5), .mv (.t 23), none, 330240, 10, []⟩]))
  (.reg [⟨(some 12), .mv (.t 6), none, 262144, 0, []⟩,
    ⟨(some 13), .bin .add (.t 12) (.k (.int .i64 1)), none, 262400, 1, []⟩,
    ⟨(some 6), .mv (.t 13), none, 262656, 2, []⟩]))))))
 (.seq (.reg [⟨(some 24), .mv (.t 5), none, 393216, 0, []⟩,
   ⟨(some 25), .b2s (.t 24), none, 393472, 1, []⟩,
   ⟨(some 4), .mv (.t 25), none, 393728, 2, []⟩])
 (.ret))))⟩
/-- loop.example/g00849/spec.l03Unit -/
def F161 : F := ⟨1, 31, [.cell 2 3 true],
 .seq (.reg [⟨(some 2), .alloc [(.int .i64 0), (.int .i64 0), (.nil true 1)], none, 0, 0, []⟩])
 (.seq (.reg [⟨(some 5), .mv (.t 0), none, 65536, 0, []⟩,
   ⟨(some 6), .mv (.t 0), none, 65792, 1, []⟩,
   ⟨(some 7), .build [(.int .i64 0), (.int .i64 0), (.nil true 1)] [(0, 1, (.t 5)), (1, 1, (.t 6))], none, 66048, 2, []⟩,
   ⟨(some 3), .alloc [(.int .i64 0), (.int .i64 0), (.nil true 1)], none, 66304, 3, []⟩,
   ⟨none, .store 3 (.t 3) (.t 7), none, 66560, 4, []⟩])
 (.seq (.seq (.reg [⟨(some 4), .mv (.k (.int .i64 0)), none, 131072, 0, []⟩])
 (.block 0 (.loop [0, 2, 3, 4] [0, 3, 66304, 66307, 66561, 66562, 66563, 524545, 524546, 524547]
  (.seq (.seq (.reg [⟨(some 8), .mv (.t 4), none, 196608, 0, []⟩,
    ⟨(some 9), .mv (.t 0), none, 196864, 1, []⟩,
    ⟨(some 10), .mv (.t 0), none, 197120, 2, []⟩,
    ⟨(some 11), .bin .mul (.t 9) (.t 10), none, 197376, 3, []⟩,
    ⟨(some 12), .bin .lss (.t 8) (.t 11), none, 197632, 4, []⟩])
  (.cond (.t 12)
   (.skip)
   (.exit 0)))
  (.seq (.block 1 (.seq (.reg [⟨(some 15), .mv (.t 4), none, 327680, 0, []⟩,
    ⟨(some 16), .mv (.t 0), none, 327936, 1, []⟩,
    ⟨(some 17), .bin .add (.t 16) (.k (.int .i64 1)), none, 328192, 2, []⟩,
    ⟨(some 18), .bin .rem (.t 15) (.t 17), none, 328448, 3, []⟩,
    ⟨(some 19), .bin .eql (.t 18) (.k (.int .i64 0)), none, 328704, 4, []⟩])
  (.cond (.t 19)
   (.reg [⟨(some 20), .faddr 2 (.t 3), none, 393216, 0, []⟩,
     ⟨(some 21), .load 1 false (.t 20), none, 393472, 1, []⟩,
     ⟨(some 22), .bslice true 1 [(.int .i64 0)] 1 [(0, (.k (.int .i64 1)))], none, 393728, 2, []⟩,
     ⟨(some 23), .app true 1 8 (.t 21) (.t 22), none, 393984, 3, []⟩,
     ⟨(some 24), .faddr 2 (.t 3), none, 394240, 4, []⟩,
     ⟨none, .store 1 (.t 24) (.t 23), none, 394496, 5, []⟩])
   (.reg [⟨(some 25), .faddr 2 (.t 3), none, 458752, 0, []⟩,
     ⟨(some 26), .load 1 false (.t 25), none, 459008, 1, []⟩,
     ⟨(some 27), .bslice true 1 [(.int .i64 0)] 1 [(0, (.k (.int .i64 0)))], none, 459264, 2, []⟩,
     ⟨(some 28), .app true 1 8 (.t 26) (.t 27), none, 459520, 3, []⟩,
     ⟨(some 29), .faddr 2 (.t 3), none, 459776, 4, []⟩,
     ⟨none, .store 1 (.t 29) (.t 28), none, 460032, 5, []⟩]))))
  (.reg [⟨(some 13), .mv (.t 4), none, 262144, 0, []⟩,
    ⟨(some 14), .bin .add (.t 13) (.k (.int .i64 1)), none, 262400, 1, []⟩,
    ⟨(some 4), .mv (.t 14), none, 262656, 2, []⟩]))))))
 (.seq (.reg [⟨(some 30), .load 3 true (.t 3), none, 524288, 0, []⟩,
   ⟨none, .store 3 (.t 2) (.t 30), none, 524544, 1, []⟩])
 (.ret))))⟩
/-- loop.example/g00849/spec.l02Times -/
def F162 : F := ⟨2, 26, [.t 4],
 .seq (.reg [⟨(some 4), .mv (.k (.int .i64 0)), none, 0, 0, []⟩])
 (.seq (.reg [⟨(some 5), .mv (.k (.int .i64 0)), none, 65536, 0, []⟩])
 (.seq (.seq (.reg [⟨(some 6), .mv (.k (.int .i64 0)), none, 131072, 0, []⟩])
 (.block 0 (.loop [0, 1, 5, 6] []
  (.seq (.seq (.reg [⟨(some 7), .mv (.t 6), none, 196608, 0, []⟩,
    ⟨(some 8), .bin .lss (.t 7) (.k (.int .i64 8)), none, 196864, 1, []⟩])
  (.cond (.t 8)
   (.skip)
   (.exit 0)))
  (.seq (.block 1 (.seq (.seq (.reg [⟨(some 11), .mv (.t 1), none, 327680, 0, []⟩,
    ⟨(some 12), .bin .and (.t 11) (.k (.int .i64 1)), none, 327936, 1, []⟩,
    ⟨(some 13), .bin .neq (.t 12) (.k (.int .i64 0)), none, 328192, 2, []⟩])
  (.cond (.t 13)
   (.reg [⟨(some 14), .mv (.t 5), none, 393216, 0, []⟩,
     ⟨(some 15), .mv (.t 0), none, 393472, 1, []⟩,
     ⟨(some 16), .bin .xor (.t 14) (.t 15), none, 393728, 2, []⟩,
     ⟨(some 5), .mv (.t 16), none, 393984, 3, []⟩])
   (.skip)))
  (.seq (.reg [⟨(some 17), .mv (.t 1), none, 458752, 0, []⟩,
    ⟨(some 18), .bin .shr (.t 17) (.k (.int .u64 1)), none, 459008, 1, []⟩,
    ⟨(some 1), .mv (.t 18), none, 459264, 2, []⟩])
  (.seq (.reg [⟨(some 19), .mv (.t 0), none, 524288, 0, []⟩,
    ⟨(some 20), .bin .shl (.t 19) (.k (.int .u64 1)), none, 524544, 1, []⟩,
    ⟨(some 0), .mv (.t 20), none, 524800, 2, []⟩])
  (.seq (.reg [⟨(some 21), .mv (.t 0), none, 589824, 0, []⟩,
    ⟨(some 22), .bin .gtr (.t 21) (.k (.int .i64 255)), none, 590080, 1, []⟩])
  (.cond (.t 22)
   (.reg [⟨(some 23), .mv (.t 0), none, 655360, 0, []⟩,
     ⟨(some 24), .bin .xor (.t 23) (.k (.int .i64 285)), none, 655616, 1, []⟩,
     ⟨(some 0), .mv (.t 24), none, 655872, 2, []⟩])
   (.skip)))))))
  (.reg [⟨(some 9), .mv (.t 6), none, 262144, 0, []⟩,
    ⟨(some 10), .bin .add (.t 9) (.k (.int .i64 1)), none, 262400, 1, []⟩,
    ⟨(some 6), .mv (.t 10), none, 262656, 2, []⟩]))))))
 (.seq (.reg [⟨(some 25), .mv (.t 5), none, 720896, 0, []⟩,
   ⟨(some 4), .mv (.t 25), none, 721152, 1, []⟩])
 (.ret))))⟩
/-- loop.example/g00849/spec.l02Inv -/
def F163 : F := ⟨1, 5, [.t 2],
 .seq (.reg [⟨(some 2), .mv (.k (.int .i64 0)), none, 0, 0, []⟩])
 (.seq (.reg [⟨(some 3), .mv (.t 0), none, 65536, 0, []⟩,
   ⟨(some 4), .call 175 [(.t 3), (.k (.int .i64 254))] true, none, 65792, 1, []⟩,
   ⟨(some 2), .mv (.t 4), none, 66048, 2, []⟩])
 (.ret))⟩
/-- slices.IndexFunc[[]int64,int64] -/
def F167 : F := ⟨2, 19, [.t 4],
 .seq (.reg [⟨(some 4), .mv (.k (.int .i64 0)), none, 0, 0, []⟩])
 (.seq (.seq (.reg [⟨(some 6), .mv (.t 0), none, 65536, 0, []⟩,
   ⟨(some 7), .len false (.t 6), none, 65792, 1, []⟩,
   ⟨(some 8), .mv (.k (.int .i64 0)), none, 66048, 2, []⟩])
 (.block 0 (.loop [0, 1, 7, 8] []
  (.seq (.reg [⟨(some 9), .bin .lss (.t 8) (.t 7), none, 131072, 0, []⟩])
  (.seq (.cond (.t 9)
   (.skip)
   (.exit 0))
  (.seq (.block 1 (.seq (.reg [⟨(some 10), .mv (.t 8), none, 196608, 0, []⟩,
    ⟨(some 5), .mv (.t 10), none, 196864, 1, []⟩])
  (.seq (.reg [⟨(some 11), .mv (.t 1), none, 262144, 0, []⟩,
    ⟨(some 12), .mv (.t 0), none, 262400, 1, []⟩,
    ⟨(some 13), .mv (.t 5), none, 262656, 2, []⟩,
    ⟨(some 14), .iaddr 1 (.t 12) (.t 13), none, 262912, 3, []⟩,
    ⟨(some 15), .load 1 false (.t 14), none, 263168, 4, []⟩,
    ⟨(some 16), .callv (.t 11) [(.t 15)] true, none, 263424, 5, []⟩])
  (.cond (.t 16)
   (.seq (.reg [⟨(some 17), .mv (.t 5), none, 327680, 0, []⟩,
     ⟨(some 4), .mv (.t 17), none, 327936, 1, []⟩])
   (.ret))
   (.skip)))))
  (.reg [⟨(some 18), .bin .add (.t 8) (.k (.int .i64 1)), none, 393216, 0, []⟩,
    ⟨(some 8), .mv (.t 18), none, 393472, 1, []⟩])))))))
 (.seq (.reg [⟨(some 4), .mv (.k (.int .i64 (-1))), none, 458752, 0, []⟩])
 (.ret)))⟩
/-- loop.example/g00849/spec.l00Own -/
def F168 : F := ⟨1, 6, [.t 2],
 .seq (.reg [⟨(some 2), .nil0 true 1, none, 0, 0, []⟩])
 (.seq (.reg [⟨(some 3), .bslice true 1 [(.int .i64 0)] 0 [], none, 65536, 0, []⟩,
   ⟨(some 4), .mv (.t 0), none, 65792, 1, []⟩,
   ⟨(some 5), .app true 1 8 (.t 3) (.t 4), none, 66048, 2, []⟩,
   ⟨(some 2), .mv (.t 5), none, 66304, 3, []⟩])
 (.ret))⟩
/-- loop.example/g00849/spec.l03Swap -/
def F169 : F := ⟨4, 46, [],
 .seq (.reg [⟨(some 8), .mv (.k (.int .i64 0)), none, 0, 0, []⟩])
 (.block 0 (.loop [0, 1, 2, 3, 8] []
  (.seq (.seq (.reg [⟨(some 10), .mv (.t 8), none, 65536, 0, []⟩,
    ⟨(some 11), .mv (.t 1), none, 65792, 1, []⟩,
    ⟨(some 12), .bin .lss (.t 10) (.t 11), none, 66048, 2, []⟩])
  (.cond (.t 12)
   (.skip)
   (.exit 0)))
  (.seq (.block 1 (.seq (.reg [⟨(some 15), .mv (.t 0), none, 196608, 0, []⟩,
    ⟨(some 16), .mv (.t 2), none, 196864, 1, []⟩,
    ⟨(some 17), .mv (.t 1), none, 197120, 2, []⟩,
    ⟨(some 18), .bin .mul (.t 16) (.t 17), none, 197376, 3, []⟩,
    ⟨(some 19), .mv (.t 8), none, 197632, 4, []⟩,
    ⟨(some 20), .bin .add (.t 18) (.t 19), none, 197888, 5, []⟩,
    ⟨(some 21), .iaddr 1 (.t 15) (.t 20), none, 198144, 6, []⟩,
    ⟨(some 22), .load 1 false (.t 21), none, 198400, 7, []⟩,
    ⟨(some 9), .mv (.t 22), none, 198656, 8, []⟩])
  (.seq (.reg [⟨(some 23), .mv (.t 0), none, 262144, 0, []⟩,
    ⟨(some 24), .mv (.t 2), none, 262400, 1, []⟩,
    ⟨(some 25), .mv (.t 1), none, 262656, 2, []⟩,
    ⟨(some 26), .bin .mul (.t 24) (.t 25), none, 262912, 3, []⟩,
    ⟨(some 27), .mv (.t 8), none, 263168, 4, []⟩,
    ⟨(some 28), .bin .add (.t 26) (.t 27), none, 263424, 5, []⟩,
    ⟨(some 29), .mv (.t 0), none, 263680, 6, []⟩,
    ⟨(some 30), .mv (.t 3), none, 263936, 7, []⟩,
    ⟨(some 31), .mv (.t 1), none, 264192, 8, []⟩,
    ⟨(some 32), .bin .mul (.t 30) (.t 31), none, 264448, 9, []⟩,
    ⟨(some 33), .mv (.t 8), none, 264704, 10, []⟩,
    ⟨(some 34), .bin .add (.t 32) (.t 33), none, 264960, 11, []⟩,
    ⟨(some 35), .iaddr 1 (.t 29) (.t 34), none, 265216, 12, []⟩,
    ⟨(some 36), .load 1 false (.t 35), none, 265472, 13, []⟩,
    ⟨(some 37), .iaddr 1 (.t 23) (.t 28), none, 265728, 14, []⟩,
    ⟨none, .store 1 (.t 37) (.t 36), none, 265984, 15, []⟩])
  (.reg [⟨(some 38), .mv (.t 0), none, 327680, 0, []⟩,
    ⟨(some 39), .mv (.t 3), none, 327936, 1, []⟩,
    ⟨(some 40), .mv (.t 1), none, 328192, 2, []⟩,
    ⟨(some 41), .bin .mul (.t 39) (.t 40), none, 328448, 3, []⟩,
    ⟨(some 42), .mv (.t 8), none, 328704, 4, []⟩,
    ⟨(some 43), .bin .add (.t 41) (.t 42), none, 328960, 5, []⟩,
    ⟨(some 44), .mv (.t 9), none, 329216, 6, []⟩,
    ⟨(some 45), .iaddr 1 (.t 38) (.t 43), none, 329472, 7, []⟩,
    ⟨none, .store 1 (.t 45) (.t 44), none, 329728, 8, []⟩]))))
  (.reg [⟨(some 13), .mv (.t 8), none, 131072, 0, []⟩,
    ⟨(some 14), .bin .add (.t 13) (.k (.int .i64 1)), none, 131328, 1, []⟩,
    ⟨(some 8), .mv (.t 14), none, 131584, 2, []⟩])))))⟩
/-- loop.example/g00849/spec.l03Clear -/
def F170 : F := ⟨4, 126, [],
 .seq (.reg [⟨(some 13), .mv (.t 0), none, 0, 0, []⟩,
   ⟨(some 14), .mv (.t 3), none, 256, 1, []⟩,
   ⟨(some 15), .mv (.t 2), none, 512, 2, []⟩,
   ⟨(some 16), .bin .mul (.t 14) (.t 15), none, 768, 3, []⟩,
   ⟨(some 17), .mv (.t 3), none, 1024, 4, []⟩,
   ⟨(some 18), .bin .add (.t 16) (.t 17), none, 1280, 5, []⟩,
   ⟨(some 19), .iaddr 1 (.t 13) (.t 18), none, 1536, 6, []⟩,
   ⟨(some 20), .load 1 false (.t 19), none, 1792, 7, []⟩,
   ⟨(some 21), .call 163 [(.t 20)] true, none, 2048, 8, []⟩,
   ⟨(some 8), .mv (.t 21), none, 2304, 9, []⟩])
 (.seq (.seq (.reg [⟨(some 9), .mv (.k (.int .i64 0)), none, 65536, 0, []⟩])
 (.block 0 (.loop [0, 1, 2, 3, 8, 9] [922625, 988161]
  (.seq (.seq (.reg [⟨(some 22), .mv (.t 9), none, 131072, 0, []⟩,
    ⟨(some 23), .mv (.t 2), none, 131328, 1, []⟩,
    ⟨(some 24), .bin .lss (.t 22) (.t 23), none, 131584, 2, []⟩])
  (.cond (.t 24)
   (.skip)
   (.exit 0)))
  (.seq (.block 1 (.seq (.reg [⟨(some 27), .mv (.t 0), none, 262144, 0, []⟩,
    ⟨(some 28), .mv (.t 3), none, 262400, 1, []⟩,
    ⟨(some 29), .mv (.t 2), none, 262656, 2, []⟩,
    ⟨(some 30), .bin .mul (.t 28) (.t 29), none, 262912, 3, []⟩,
    ⟨(some 31), .mv (.t 9), none, 263168, 4, []⟩,
    ⟨(some 32), .bin .add (.t 30) (.t 31), none, 263424, 5, []⟩,
    ⟨(some 33), .mv (.t 8), none, 263680, 6, []⟩,
    ⟨(some 34), .mv (.t 0), none, 263936, 7, []⟩,
    ⟨(some 35), .mv (.t 3), none, 264192, 8, []⟩,
    ⟨(some 36), .mv (.t 2), none, 264448, 9, []⟩,
    ⟨(some 37), .bin .mul (.t 35) (.t 36), none, 264704, 10, []⟩,
    ⟨(some 38), .mv (.t 9), none, 264960, 11, []⟩,
    ⟨(some 39), .bin .add (.t 37) (.t 38), none, 265216, 12, []⟩,
    ⟨(some 40), .iaddr 1 (.t 34) (.t 39), none, 265472, 13, []⟩,
    ⟨(some 41), .load 1 false (.t 40), none, 265728, 14, []⟩,
    ⟨(some 42), .call 162 [(.t 33), (.t 41)] true, none, 265984, 15, []⟩,
    ⟨(some 43), .iaddr 1 (.t 27) (.t 32), none, 266240, 16, []⟩,
    ⟨none, .store 1 (.t 43) (.t 42), none, 266496, 17, []⟩])
  (.reg [⟨(some 44), .mv (.t 1), none, 327680, 0, []⟩,
    ⟨(some 45), .mv (.t 3), none, 327936, 1, []⟩,
    ⟨(some 46), .mv (.t 2), none, 328192, 2, []⟩,
    ⟨(some 47), .bin .mul (.t 45) (.t 46), none, 328448, 3, []⟩,
    ⟨(some 48), .mv (.t 9), none, 328704, 4, []⟩,
    ⟨(some 49), .bin .add (.t 47) (.t 48), none, 328960, 5, []⟩,
    ⟨(some 50), .mv (.t 8), none, 329216, 6, []⟩,
    ⟨(some 51), .mv (.t 1), none, 329472, 7, []⟩,
    ⟨(some 52), .mv (.t 3), none, 329728, 8, []⟩,
    ⟨(some 53), .mv (.t 2), none, 329984, 9, []⟩,
    ⟨(some 54), .bin .mul (.t 52) (.t 53), none, 330240, 10, []⟩,
    ⟨(some 55), .mv (.t 9), none, 330496, 11, []⟩,
    ⟨(some 56), .bin .add (.t 54) (.t 55), none, 330752, 12, []⟩,
    ⟨(some 57), .iaddr 1 (.t 51) (.t 56), none, 331008, 13, []⟩,
    ⟨(some 58), .load 1 false (.t 57), none, 331264, 14, []⟩,
    ⟨(some 59), .call 162 [(.t 50), (.t 58)] true, none, 331520, 15, []⟩,
    ⟨(some 60), .iaddr 1 (.t 44) (.t 49), none, 331776, 16, []⟩,
    ⟨none, .store 1 (.t 60) (.t 59), none, 332032, 17, []⟩])))
  (.reg [⟨(some 25), .mv (.t 9), none, 196608, 0, []⟩,
    ⟨(some 26), .bin .add (.t 25) (.k (.int .i64 1)), none, 196864, 1, []⟩,
    ⟨(some 9), .mv (.t 26), none, 197120, 2, []⟩]))))))
 (.seq (.reg [⟨(some 10), .mv (.k (.int .i64 0)), none, 393216, 0, []⟩])
 (.block 2 (.loop [0, 1, 2, 3, 10] [266497, 332033]
  (.seq (.seq (.reg [⟨(some 61), .mv (.t 10), none, 458752, 0, []⟩,
    ⟨(some 62), .mv (.t 2), none, 459008, 1, []⟩,
    ⟨(some 63), .bin .lss (.t 61) (.t 62), none, 459264, 2, []⟩])
  (.cond (.t 63)
   (.skip)
   (.exit 2)))
  (.seq (.block 3 (.seq (.reg [⟨(some 66), .mv (.t 0), none, 589824, 0, []⟩,
    ⟨(some 67), .mv (.t 10), none, 590080, 1, []⟩,
    ⟨(some 68), .mv (.t 2), none, 590336, 2, []⟩,
    ⟨(some 69), .bin .mul (.t 67) (.t 68), none, 590592, 3, []⟩,
    ⟨(some 70), .mv (.t 3), none, 590848, 4, []⟩,
    ⟨(some 71), .bin .add (.t 69) (.t 70), none, 591104, 5, []⟩,
    ⟨(some 72), .iaddr 1 (.t 66) (.t 71), none, 591360, 6, []⟩,
    ⟨(some 73), .load 1 false (.t 72), none, 591616, 7, []⟩,
    ⟨(some 11), .mv (.t 73), none, 591872, 8, []⟩])
  (.seq (.seq (.reg [⟨(some 74), .mv (.t 10), none, 655360, 0, []⟩,
    ⟨(some 75), .mv (.t 3), none, 655616, 1, []⟩,
    ⟨(some 76), .bin .eql (.t 74) (.t 75), none, 655872, 2, []⟩,
    ⟨(some 77), .mv (.t 76), none, 656128, 3, []⟩,
    ⟨(some 78), .mv (.t 11), (some (some 77, false)), 656384, 4, []⟩,
    ⟨(some 79), .bin .eql (.t 78) (.k (.int .i64 0)), (some (some 77, false)), 656640, 5, []⟩,
    ⟨(some 80), .pick (.t 77) (.k (.bool true)) (.t 79), none, 656896, 6, []⟩])
  (.cond (.t 80)
   (.exit 3)
   (.skip)))
  (.seq (.reg [⟨(some 12), .mv (.k (.int .i64 0)), none, 720896, 0, []⟩])
  (.block 4 (.loop [0, 1, 2, 3, 10, 11, 12] [266497, 332033]
   (.seq (.seq (.reg [⟨(some 81), .mv (.t 12), none, 786432, 0, []⟩,
     ⟨(some 82), .mv (.t 2), none, 786688, 1, []⟩,
     ⟨(some 83), .bin .lss (.t 81) (.t 82), none, 786944, 2, []⟩])
   (.cond (.t 83)
    (.skip)
    (.exit 4)))
   (.seq (.block 5 (.seq (.reg [⟨(some 86), .mv (.t 0), none, 917504, 0, []⟩,
     ⟨(some 87), .mv (.t 10), none, 917760, 1, []⟩,
     ⟨(some 88), .mv (.t 2), none, 918016, 2, []⟩,
     ⟨(some 89), .bin .mul (.t 87) (.t 88), none, 918272, 3, []⟩,
     ⟨(some 90), .mv (.t 12), none, 918528, 4, []⟩,
     ⟨(some 91), .bin .add (.t 89) (.t 90), none, 918784, 5, []⟩,
     ⟨(some 92), .iaddr 1 (.t 86) (.t 91), none, 919040, 6, []⟩,
     ⟨(some 93), .load 1 false (.t 92), none, 919296, 7, []⟩,
     ⟨(some 94), .mv (.t 11), none, 919552, 8, []⟩,
     ⟨(some 95), .mv (.t 0), none, 919808, 9, []⟩,
     ⟨(some 96), .mv (.t 3), none, 920064, 10, []⟩,
     ⟨(some 97), .mv (.t 2), none, 920320, 11, []⟩,
     ⟨(some 98), .bin .mul (.t 96) (.t 97), none, 920576, 12, []⟩,
     ⟨(some 99), .mv (.t 12), none, 920832, 13, []⟩,
     ⟨(some 100), .bin .add (.t 98) (.t 99), none, 921088, 14, []⟩,
     ⟨(some 101), .iaddr 1 (.t 95) (.t 100), none, 921344, 15, []⟩,
     ⟨(some 102), .load 1 false (.t 101), none, 921600, 16, []⟩,
     ⟨(some 103), .call 162 [(.t 94), (.t 102)] true, none, 921856, 17, []⟩,
     ⟨(some 104), .bin .xor (.t 93) (.t 103), none, 922112, 18, []⟩,
     ⟨(some 105), .iaddr 1 (.t 86) (.t 91), none, 922368, 19, []⟩,
     ⟨none, .store 1 (.t 105) (.t 104), none, 922624, 20, []⟩])
   (.reg [⟨(some 106), .mv (.t 1), none, 983040, 0, []⟩,
     ⟨(some 107), .mv (.t 10), none, 983296, 1, []⟩,
     ⟨(some 108), .mv (.t 2), none, 983552, 2, []⟩,
     ⟨(some 109), .bin .mul (.t 107) (.t 108), none, 983808, 3, []⟩,
     ⟨(some 110), .mv (.t 12), none, 984064, 4, []⟩,
     ⟨(some 111), .bin .add (.t 109) (.t 110), none, 984320, 5, []⟩,
     ⟨(some 112), .iaddr 1 (.t 106) (.t 111), none, 984576, 6, []⟩,
     ⟨(some 113), .load 1 false (.t 112), none, 984832, 7, []⟩,
     ⟨(some 114), .mv (.t 11), none, 985088, 8, []⟩,
     ⟨(some 115), .mv (.t 1), none, 985344, 9, []⟩,
     ⟨(some 116), .mv (.t 3), none, 985600, 10, []⟩,
     ⟨(some 117), .mv (.t 2), none, 985856, 11, []⟩,
     ⟨(some 118), .bin .mul (.t 116) (.t 117), none, 986112, 12, []⟩,
     ⟨(some 119), .mv (.t 12), none, 986368, 13, []⟩,
     ⟨(some 120), .bin .add (.t 118) (.t 119), none, 986624, 14, []⟩,
     ⟨(some 121), .iaddr 1 (.t 115) (.t 120), none, 986880, 15, []⟩,
     ⟨(some 122), .load 1 false (.t 121), none, 987136, 16, []⟩,
     ⟨(some 123), .call 162 [(.t 114), (.t 122)] true, none, 987392, 17, []⟩,
     ⟨(some 124), .bin .xor (.t 113) (.t 123), none, 987648, 18, []⟩,
     ⟨(some 125), .iaddr 1 (.t 106) (.t 111), none, 987904, 19, []⟩,
     ⟨none, .store 1 (.t 125) (.t 124), none, 988160, 20, []⟩])))
   (.reg [⟨(some 84), .mv (.t 12), none, 851968, 0, []⟩,
     ⟨(some 85), .bin .add (.t 84) (.k (.int .i64 1)), none, 852224, 1, []⟩,
     ⟨(some 12), .mv (.t 85), none, 852480, 2, []⟩])))))))))
  (.reg [⟨(some 64), .mv (.t 10), none, 524288, 0, []⟩,
    ⟨(some 65), .bin .add (.t 64) (.k (.int .i64 1)), none, 524544, 1, []⟩,
    ⟨(some 10), .mv (.t 65), none, 524800, 2, []⟩])))))))⟩
/-- loop.example/g00849/impl.power -/
def F173 : F := ⟨2, 20, [.t 4],
 .seq (.reg [⟨(some 4), .mv (.k (.int .i64 0)), none, 0, 0, []⟩])
 (.seq (.reg [⟨(some 5), .mv (.k (.int .i64 1)), none, 65536, 0, []⟩])
 (.seq (.block 0 (.loop [0, 1, 5] []
  (.seq (.seq (.reg [⟨(some 6), .mv (.t 1), none, 131072, 0, []⟩,
    ⟨(some 7), .bin .gtr (.t 6) (.k (.int .i64 0)), none, 131328, 1, []⟩])
  (.cond (.t 7)
   (.skip)
   (.exit 0)))
  (.seq (.block 1 (.seq (.seq (.reg [⟨(some 10), .mv (.t 1), none, 262144, 0, []⟩,
    ⟨(some 11), .bin .rem (.t 10) (.k (.int .i64 2)), none, 262400, 1, []⟩,
    ⟨(some 12), .bin .eql (.t 11) (.k (.int .i64 1)), none, 262656, 2, []⟩])
  (.cond (.t 12)
   (.reg [⟨(some 13), .mv (.t 5), none, 327680, 0, []⟩,
     ⟨(some 14), .mv (.t 0), none, 327936, 1, []⟩,
     ⟨(some 15), .call 158 [(.t 13), (.t 14)] true, none, 328192, 2, []⟩,
     ⟨(some 5), .mv (.t 15), none, 328448, 3, []⟩])
   (.skip)))
  (.reg [⟨(some 16), .mv (.t 0), none, 393216, 0, []⟩,
    ⟨(some 17), .mv (.t 0), none, 393472, 1, []⟩,
    ⟨(some 18), .call 158 [(.t 16), (.t 17)] true, none, 393728, 2, []⟩,
    ⟨(some 0), .mv (.t 18), none, 393984, 3, []⟩])))
  (.reg [⟨(some 8), .mv (.t 1), none, 196608, 0, []⟩,
    ⟨(some 9), .bin .quo (.t 8) (.k (.int .i64 2)), none, 196864, 1, []⟩,
    ⟨(some 1), .mv (.t 9), none, 197120, 2, []⟩])))))
 (.seq (.reg [⟨(some 19), .mv (.t 5), none, 458752, 0, []⟩,
   ⟨(some 4), .mv (.t 19), none, 459008, 1, []⟩])
 (.ret))))⟩
/-- loop.example/g00849/impl.double -/
def F174 : F := ⟨1, 10, [.t 2],
 .seq (.reg [⟨(some 2), .mv (.k (.int .i64 0)), none, 0, 0, []⟩])
 (.seq (.reg [⟨(some 3), .mv (.t 0), none, 65536, 0, []⟩,
   ⟨(some 4), .bin .mul (.t 3) (.k (.int .i64 2)), none, 65792, 1, []⟩,
   ⟨(some 0), .mv (.t 4), none, 66048, 2, []⟩])
 (.seq (.seq (.reg [⟨(some 5), .mv (.t 0), none, 131072, 0, []⟩,
   ⟨(some 6), .bin .gtr (.t 5) (.k (.int .i64 255)), none, 131328, 1, []⟩])
 (.cond (.t 6)
  (.reg [⟨(some 7), .mv (.t 0), none, 196608, 0, []⟩,
    ⟨(some 8), .bin .xor (.t 7) (.k (.int .i64 285)), none, 196864, 1, []⟩,
    ⟨(some 0), .mv (.t 8), none, 197120, 2, []⟩])
  (.skip)))
 (.seq (.reg [⟨(some 9), .mv (.t 0), none, 262144, 0, []⟩,
   ⟨(some 2), .mv (.t 9), none, 262400, 1, []⟩])
 (.ret))))⟩
/-- loop.example/g00849/spec.l02Pow -/
def F175 : F := ⟨2, 20, [.t 4],
 .seq (.reg [⟨(some 4), .mv (.k (.int .i64 0)), none, 0, 0, []⟩])
 (.seq (.reg [⟨(some 5), .mv (.k (.int .i64 1)), none, 65536, 0, []⟩])
 (.seq (.block 0 (.loop [0, 1, 5] []
  (.seq (.seq (.reg [⟨(some 6), .mv (.t 1), none, 131072, 0, []⟩,
    ⟨(some 7), .bin .gtr (.t 6) (.k (.int .i64 0)), none, 131328, 1, []⟩])
  (.cond (.t 7)
   (.skip)
   (.exit 0)))
  (.block 1 (.seq (.seq (.reg [⟨(some 8), .mv (.t 1), none, 196608, 0, []⟩,
    ⟨(some 9), .bin .rem (.t 8) (.k (.int .i64 2)), none, 196864, 1, []⟩,
    ⟨(some 10), .bin .eql (.t 9) (.k (.int .i64 1)), none, 197120, 2, []⟩])
  (.cond (.t 10)
   (.reg [⟨(some 11), .mv (.t 5), none, 262144, 0, []⟩,
     ⟨(some 12), .mv (.t 0), none, 262400, 1, []⟩,
     ⟨(some 13), .call 162 [(.t 11), (.t 12)] true, none, 262656, 2, []⟩,
     ⟨(some 5), .mv (.t 13), none, 262912, 3, []⟩])
   (.skip)))
  (.seq (.reg [⟨(some 14), .mv (.t 0), none, 327680, 0, []⟩,
    ⟨(some 15), .mv (.t 0), none, 327936, 1, []⟩,
    ⟨(some 16), .call 162 [(.t 14), (.t 15)] true, none, 328192, 2, []⟩,
    ⟨(some 0), .mv (.t 16), none, 328448, 3, []⟩])
  (.reg [⟨(some 17), .mv (.t 1), none, 393216, 0, []⟩,
    ⟨(some 18), .bin .quo (.t 17) (.k (.int .i64 2)), none, 393472, 1, []⟩,
    ⟨(some 1), .mv (.t 18), none, 393728, 2, []⟩])))))))
 (.seq (.reg [⟨(some 19), .mv (.t 5), none, 458752, 0, []⟩,
   ⟨(some 4), .mv (.t 19), none, 459008, 1, []⟩])
 (.ret))))⟩
def fns : Nat → Option F
  | 9 => some F9
  | 11 => some F11
  | 12 => some F12
  | 18 => some F18
  | 26 => some F26
  | 30 => some F30
  | 33 => some F33
  | 35 => some F35
  | 39 => some F39
  | 42 => some F42
  | 43 => some F43
  | 46 => some F46
  | 47 => some F47
  | 48 => some F48
  | 49 => some F49
  | 50 => some F50
  | 51 => some F51
  | 52 => some F52
  | 54 => some F54
  | 55 => some F55
  | 56 => some F56
  | 57 => some F57
  | 65 => some F65
  | 66 => some F66
  | 75 => some F75
  | 77 => some F77
  | 80 => some F80
  | 82 => some F82
  | 83 => some F83
  | 84 => some F84
  | 86 => some F86
  | 88 => some F88
  | 90 => some F90
  | 91 => some F91
  | 92 => some F92
  | 96 => some F96
  | 97 => some F97
  | 98 => some F98
  | 99 => some F99
  | 100 => some F100
  | 101 => some F101
  | 102 => some F102
  | 103 => some F103
  | 105 => some F105
  | 106 => some F106
  | 107 => some F107
  | 108 => some F108
  | 109 => some F109
  | 110 => some F110
  | 111 => some F111
  | 112 => some F112
  | 115 => some F115
  | 122 => some F122
  | 124 => some F124
  | 128 => some F128
  | 129 => some F129
  | 130 => some F130
  | 131 => some F131
  | 132 => some F132
  | 133 => some F133
  | 134 => some F134
  | 136 => some F136
  | 138 => some F138
  | 139 => some F139
  | 140 => some F140
  | 141 => some F141
  | 142 => some F142
  | 143 => some F143
  | 146 => some F146
  | 147 => some F147
  | 148 => some F148
  | 149 => some F149
  | 150 => some F150
  | 153 => some F153
  | 154 => some F154
  | 155 => some F155
  | 156 => some F156
  | 157 => some F157
  | 158 => some F158
  | 159 => some F159
  | 160 => some F160
  | 161 => some F161
  | 162 => some F162
  | 163 => some F163
  | 167 => some F167
  | 168 => some F168
  | 169 => some F169
  | 170 => some F170
  | 173 => some F173
  | 174 => some F174
  | 175 => some F175
  | _ => none
def nats : Nat → Option (List AV → Option (AV × List Blk))
  | 74 => some natJoin
  | 95 => some C0.natBody
  | 135 => some natRepeat
  | 145 => some C0.natRepI
  | _ => none
def code : Prog := ⟨fns, md, nats⟩
theorem nat74 (k : Nat) (args : List AV) (E : List Heap) (v : AV) (bs : List Blk) (h : natJoin args = some (v, bs)) : call code (k + 1) 74 args E = some ⟨v, bs, E⟩ := call_nat rfl h
theorem nat95 (k : Nat) (args : List AV) (E : List Heap) (v : AV) (bs : List Blk) (h : C0.natBody args = some (v, bs)) : call code (k + 1) 95 args E = some ⟨v, bs, E⟩ := call_nat rfl h
theorem nat135 (k : Nat) (args : List AV) (E : List Heap) (v : AV) (bs : List Blk) (h : natRepeat args = some (v, bs)) : call code (k + 1) 135 args E = some ⟨v, bs, E⟩ := call_nat rfl h
theorem nat145 (k : Nat) (args : List AV) (E : List Heap) (v : AV) (bs : List Blk) (h : C0.natRepI args = some (v, bs)) : call code (k + 1) 145 args E = some ⟨v, bs, E⟩ := call_nat rfl h
theorem fn9 : code.fn 9 = some F9 := rfl
theorem fn11 : code.fn 11 = some F11 := rfl
theorem fn12 : code.fn 12 = some F12 := rfl
theorem fn18 : code.fn 18 = some F18 := rfl
theorem fn26 : code.fn 26 = some F26 := rfl
theorem fn30 : code.fn 30 = some F30 := rfl
theorem fn33 : code.fn 33 = some F33 := rfl
theorem fn35 : code.fn 35 = some F35 := rfl
theorem fn39 : code.fn 39 = some F39 := rfl
theorem fn42 : code.fn 42 = some F42 := rfl
theorem fn43 : code.fn 43 = some F43 := rfl
theorem fn46 : code.fn 46 = some F46 := rfl
theorem fn47 : code.fn 47 = some F47 := rfl
theorem fn48 : code.fn 48 = some F48 := rfl
theorem fn49 : code.fn 49 = some F49 := rfl
theorem fn50 : code.fn 50 = some F50 := rfl
theorem fn51 : code.fn 51 = some F51 := rfl
theorem fn52 : code.fn 52 = some F52 := rfl
theorem fn54 : code.fn 54 = some F54 := rfl
theorem fn55 : code.fn 55 = some F55 := rfl
theorem fn56 : code.fn 56 = some F56 := rfl
theorem fn57 : code.fn 57 = some F57 := rfl
theorem fn65 : code.fn 65 = some F65 := rfl
theorem fn66 : code.fn 66 = some F66 := rfl
theorem fn75 : code.fn 75 = some F75 := rfl
theorem fn77 : code.fn 77 = some F77 := rfl
theorem fn80 : code.fn 80 = some F80 := rfl
theorem fn82 : code.fn 82 = some F82 := rfl
theorem fn83 : code.fn 83 = some F83 := rfl
theorem fn84 : code.fn 84 = some F84 := rfl
theorem fn86 : code.fn 86 = some F86 := rfl
theorem fn88 : code.fn 88 = some F88 := rfl
theorem fn90 : code.fn 90 = some F90 := rfl
theorem fn91 : code.fn 91 = some F91 := rfl
theorem fn92 : code.fn 92 = some F92 := rfl
theorem fn96 : code.fn 96 = some F96 := rfl
theorem fn97 : code.fn 97 = some F97 := rfl
theorem fn98 : code.fn 98 = some F98 := rfl
theorem fn99 : code.fn 99 = some F99 := rfl
theorem fn100 : code.fn 100 = some F100 := rfl
theorem fn101 : code.fn 101 = some F101 := rfl
theorem fn102 : code.fn 102 = some F102 := rfl
theorem fn103 : code.fn 103 = some F103 := rfl
theorem fn105 : code.fn 105 = some F105 := rfl
theorem fn106 : code.fn 106 = some F106 := rfl
theorem fn107 : code.fn 107 = some F107 := rfl
theorem fn108 : code.fn 108 = some F108 := rfl
theorem fn109 : code.fn 109 = some F109 := rfl
theorem fn110 : code.fn 110 = some F110 := rfl
theorem fn111 : code.fn 111 = some F111 := rfl
theorem fn112 : code.fn 112 = some F112 := rfl
theorem fn115 : code.fn 115 = some F115 := rfl
theorem fn122 : code.fn 122 = some F122 := rfl
theorem fn124 : code.fn 124 = some F124 := rfl
theorem fn128 : code.fn 128 = some F128 := rfl
theorem fn129 : code.fn 129 = some F129 := rfl
theorem fn130 : code.fn 130 = some F130 := rfl
theorem fn131 : code.fn 131 = some F131 := rfl
theorem fn132 : code.fn 132 = some F132 := rfl
theorem fn133 : code.fn 133 = some F133 := rfl
theorem fn134 : code.fn 134 = some F134 := rfl
theorem fn136 : code.fn 136 = some F136 := rfl
theorem fn138 : code.fn 138 = some F138 := rfl
theorem fn139 : code.fn 139 = some F139 := rfl
theorem fn140 : code.fn 140 = some F140 := rfl
theorem fn141 : code.fn 141 = some F141 := rfl
theorem fn142 : code.fn 142 = some F142 := rfl
theorem fn143 : code.fn 143 = some F143 := rfl
theorem fn146 : code.fn 146 = some F146 := rfl
theorem fn147 : code.fn 147 = some F147 := rfl
theorem fn148 : code.fn 148 = some F148 := rfl
theorem fn149 : code.fn 149 = some F149 := rfl
theorem fn150 : code.fn 150 = some F150 := rfl
theorem fn153 : code.fn 153 = some F153 := rfl
theorem fn154 : code.fn 154 = some F154 := rfl
theorem fn155 : code.fn 155 = some F155 := rfl
theorem fn156 : code.fn 156 = some F156 := rfl
theorem fn157 : code.fn 157 = some F157 := rfl
theorem fn158 : code.fn 158 = some F158 := rfl
theorem fn159 : code.fn 159 = some F159 := rfl
theorem fn160 : code.fn 160 = some F160 := rfl
theorem fn161 : code.fn 161 = some F161 := rfl
theorem fn162 : code.fn 162 = some F162 := rfl
theorem fn163 : code.fn 163 = some F163 := rfl
theorem fn167 : code.fn 167 = some F167 := rfl
theorem fn168 : code.fn 168 = some F168 := rfl
theorem fn169 : code.fn 169 = some F169 := rfl
theorem fn170 : code.fn 170 = some F170 := rfl
theorem fn173 : code.fn 173 = some F173 := rfl
theorem fn174 : code.fn 174 = some F174 := rfl
theorem fn175 : code.fn 175 = some F175 := rfl
theorem rcall74 {O : Oracle} {st : St} {Q : Ex → St → Prop} {fs : List Fr} {d : Option Nat} {b i : Nat} {ap : List X} {r : List IOp} (xs : List X) (fl : Bool) : RunO O code.md (⟨d, .call 74 xs fl, none, b, i, ap⟩ :: r) fs st Q = (quietOk st (.call 74 xs fl) ap = true ∧ RunQ O code.md (callVal O st b 74 (evalXs st xs) fl) d r fs st Q) := R_call 74 xs fl rfl
theorem rcall95 {O : Oracle} {st : St} {Q : Ex → St → Prop} {fs : List Fr} {d : Option Nat} {b i : Nat} {ap : List X} {r : List IOp} (xs : List X) (fl : Bool) : RunO O code.md (⟨d, .call 95 xs fl, none, b, i, ap⟩ :: r) fs st Q = (quietOk st (.call 95 xs fl) ap = true ∧ RunQ O code.md (callVal O st b 95 (evalXs st xs) fl) d r fs st Q) := R_call 95 xs fl rfl
theorem rcall135 {O : Oracle} {st : St} {Q : Ex → St → Prop} {fs : List Fr} {d : Option Nat} {b i : Nat} {ap : List X} {r : List IOp} (xs : List X) (fl : Bool) : RunO O code.md (⟨d, .call 135 xs fl, none, b, i, ap⟩ :: r) fs st Q = (quietOk st (.call 135 xs fl) ap = true ∧ RunQ O code.md (callVal O st b 135 (evalXs st xs) fl) d r fs st Q) := R_call 135 xs fl rfl
theorem rcall145 {O : Oracle} {st : St} {Q : Ex → St → Prop} {fs : List Fr} {d : Option Nat} {b i : Nat} {ap : List X} {r : List IOp} (xs : List X) (fl : Bool) : RunO O code.md (⟨d, .call 145 xs fl, none, b, i, ap⟩ :: r) fs st Q = (quietOk st (.call 145 xs fl) ap = true ∧ RunQ O code.md (callVal O st b 145 (evalXs st xs) fl) d r fs st Q) := R_call 145 xs fl rfl
theorem rcall9 {O : Oracle} {st : St} {Q : Ex → St → Prop} {fs : List Fr} {d : Option Nat} {b i : Nat} {ap : List X} {r : List IOp} (xs : List X) (fl : Bool) : RunO O code.md (⟨d, .call 9 xs fl, none, b, i, ap⟩ :: r) fs st Q = (quietOk st (.call 9 xs fl) ap = true ∧ RunQ O code.md (callVal O st b 9 (evalXs st xs) fl) d r fs st Q) := R_call 9 xs fl rfl
theorem rcall11 {O : Oracle} {st : St} {Q : Ex → St → Prop} {fs : List Fr} {d : Option Nat} {b i : Nat} {ap : List X} {r : List IOp} (xs : List X) (fl : Bool) : RunO O code.md (⟨d, .call 11 xs fl, none, b, i, ap⟩ :: r) fs st Q = (quietOk st (.call 11 xs fl) ap = true ∧ RunQ O code.md (callVal O st b 11 (evalXs st xs) fl) d r fs st Q) := R_call 11 xs fl rfl
theorem rcall12 {O : Oracle} {st : St} {Q : Ex → St → Prop} {fs : List Fr} {d : Option Nat} {b i : Nat} {ap : List X} {r : List IOp} (xs : List X) (fl : Bool) : RunO O code.md (⟨d, .call 12 xs fl, none, b, i, ap⟩ :: r) fs st Q = (quietOk st (.call 12 xs fl) ap = true ∧ RunQ O code.md (callVal O st b 12 (evalXs st xs) fl) d r fs st Q) := R_call 12 xs fl rfl
theorem rcall18 {O : Oracle} {st : St} {Q : Ex → St → Prop} {fs : List Fr} {d : Option Nat} {b i : Nat} {ap : List X} {r : List IOp} (xs : List X) (fl : Bool) : RunO O code.md (⟨d, .call 18 xs fl, none, b, i, ap⟩ :: r) fs st Q = (quietOk st (.call 18 xs fl) ap = true ∧ RunQ O code.md (callVal O st b 18 (evalXs st xs) fl) d r fs st Q) := R_call 18 xs fl rfl
theorem rcall26 {O : Oracle} {st : St} {Q : Ex → St → Prop} {fs : List Fr} {d : Option Nat} {b i : Nat} {ap : List X} {r : List IOp} (xs : List X) (fl : Bool) : RunO O code.md (⟨d, .call 26 xs fl, none, b, i, ap⟩ :: r) fs st Q = (quietOk st (.call 26 xs fl) ap = true ∧ RunQ O code.md (callVal O st b 26 (evalXs st xs) fl) d r fs st Q) := R_call 26 xs fl rfl
theorem rcall30 {O : Oracle} {st : St} {Q : Ex → St → Prop} {fs : List Fr} {d : Option Nat} {b i : Nat} {ap : List X} {r : List IOp} (xs : List X) (fl : Bool) : RunO O code.md (⟨d, .call 30 xs fl, none, b, i, ap⟩ :: r) fs st Q = (quietOk st (.call 30 xs fl) ap = true ∧ RunQ O code.md (callVal O st b 30 (evalXs st xs) fl) d r fs st Q) := R_call 30 xs fl rfl
theorem rcall33 {O : Oracle} {st : St} {Q : Ex → St → Prop} {fs : List Fr} {d : Option Nat} {b i : Nat} {ap : List X} {r : List IOp} (xs : List X) (fl : Bool) : RunO O code.md (⟨d, .call 33 xs fl, none, b, i, ap⟩ :: r) fs st Q = (quietOk st (.call 33 xs fl) ap = true ∧ RunQ O code.md (callVal O st b 33 (evalXs st xs) fl) d r fs st Q) := R_call 33 xs fl rfl
theorem rcall35 {O : Oracle} {st : St} {Q : Ex → St → Prop} {fs : List Fr} {d : Option Nat} {b i : Nat} {ap : List X} {r : List IOp} (xs : List X) (fl : Bool) : RunO O code.md (⟨d, .call 35 xs fl, none, b, i, ap⟩ :: r) fs st Q = (quietOk st (.call 35 xs fl) ap = true ∧ RunQ O code.md (callVal O st b 35 (evalXs st xs) fl) d r fs st Q) := R_call 35 xs fl rfl
theorem rcall39 {O : Oracle} {st : St} {Q : Ex → St → Prop} {fs : List Fr} {d : Option Nat} {b i : Nat} {ap : List X} {r : List IOp} (xs : List X) (fl : Bool) : RunO O code.md (⟨d, .call 39 xs fl, none, b, i, ap⟩ :: r) fs st Q = (quietOk st (.call 39 xs fl) ap = true ∧ RunQ O code.md (callVal O st b 39 (evalXs st xs) fl) d r fs st Q) := R_call 39 xs fl rfl
theorem rcall42 {O : Oracle} {st : St} {Q : Ex → St → Prop} {fs : List Fr} {d : Option Nat} {b i : Nat} {ap : List X} {r : List IOp} (xs : List X) (fl : Bool) : RunO O code.md (⟨d, .call 42 xs fl, none, b, i, ap⟩ :: r) fs st Q = (quietOk st (.call 42 xs fl) ap = true ∧ RunQ O code.md (callVal O st b 42 (evalXs st xs) fl) d r fs st Q) := R_call 42 xs fl rfl
theorem rcall43 {O : Oracle} {st : St} {Q : Ex → St → Prop} {fs : List Fr} {d : Option Nat} {b i : Nat} {ap : List X} {r : List IOp} (xs : List X) (fl : Bool) : RunO O code.md (⟨d, .call 43 xs fl, none, b, i, ap⟩ :: r) fs st Q = (quietOk st (.call 43 xs fl) ap = true ∧ RunQ O code.md (callVal O st b 43 (evalXs st xs) fl) d r fs st Q) := R_call 43 xs fl rfl
theorem rcall46 {O : Oracle} {st : St} {Q : Ex → St → Prop} {fs : List Fr} {d : Option Nat} {b i : Nat} {ap : List X} {r : List IOp} (xs : List X) (fl : Bool) : RunO O code.md (⟨d, .call 46 xs fl, none, b, i, ap⟩ :: r) fs st Q = (quietOk st (.call 46 xs fl) ap = true ∧ RunQ O code.md (callVal O st b 46 (evalXs st xs) fl) d r fs st Q) := R_call 46 xs fl rfl
theorem rcall47 {O : Oracle} {st : St} {Q : Ex → St → Prop} {fs : List Fr} {d : Option Nat} {b i : Nat} {ap : List X} {r : List IOp} (xs : List X) (fl : Bool) : RunO O code.md (⟨d, .call 47 xs fl, none, b, i, ap⟩ :: r) fs st Q = (quietOk st (.call 47 xs fl) ap = true ∧ RunQ O code.md (callVal O st b 47 (evalXs st xs) fl) d r fs st Q) := R_call 47 xs fl rfl
theorem rcall48 {O : Oracle} {st : St} {Q : Ex → St → Prop} {fs : List Fr} {d : Option Nat} {b i : Nat} {ap : List X} {r : List IOp} (xs : List X) (fl : Bool) : RunO O code.md (⟨d, .call 48 xs fl, none, b, i, ap⟩ :: r) fs st Q = (quietOk st (.call 48 xs fl) ap = true ∧ RunQ O code.md (callVal O st b 48 (evalXs st xs) fl) d r fs st Q) := R_call 48 xs fl rfl
theorem rcall49 {O : Oracle} {st : St} {Q : Ex → St → Prop} {fs : List Fr} {d : Option Nat} {b i : Nat} {ap : List X} {r : List IOp} (xs : List X) (fl : Bool) : RunO O code.md (⟨d, .call 49 xs fl, none, b, i, ap⟩ :: r) fs st Q = (quietOk st (.call 49 xs fl) ap = true ∧ RunQ O code.md (callVal O st b 49 (evalXs st xs) fl) d r fs st Q) := R_call 49 xs fl rfl
theorem rcall50 {O : Oracle} {st : St} {Q : Ex → St → Prop} {fs : List Fr} {d : Option Nat} {b i : Nat} {ap : List X} {r : List IOp} (xs : List X) (fl : Bool) : RunO O code.md (⟨d, .call 50 xs fl, none, b, i, ap⟩ :: r) fs st Q = (quietOk st (.call 50 xs fl) ap = true ∧ RunQ O code.md (callVal O st b 50 (evalXs st xs) fl) d r fs st Q) := R_call 50 xs fl rfl
theorem rcall51 {O : Oracle} {st : St} {Q : Ex → St → Prop} {fs : List Fr} {d : Option Nat} {b i : Nat} {ap : List X} {r : List IOp} (xs : List X) (fl : Bool) : RunO O code.md (⟨d, .call 51 xs fl, none, b, i, ap⟩ :: r) fs st Q = (quietOk st (.call 51 xs fl) ap = true ∧ RunQ O code.md (callVal O st b 51 (evalXs st xs) fl) d r fs st Q) := R_call 51 xs fl rfl
theorem rcall52 {O : Oracle} {st : St} {Q : Ex → St → Prop} {fs : List Fr} {d : Option Nat} {b i : Nat} {ap : List X} {r : List IOp} (xs : List X) (fl : Bool) : RunO O code.md (⟨d, .call 52 xs fl, none, b, i, ap⟩ :: r) fs st Q = (quietOk st (.call 52 xs fl) ap = true ∧ RunQ O code.md (callVal O st b 52 (evalXs st xs) fl) d r fs st Q) := R_call 52 xs fl rfl
theorem rcall54 {O : Oracle} {st : St} {Q : Ex → St → Prop} {fs : List Fr} {d : Option Nat} {b i : Nat} {ap : List X} {r : List IOp} (xs : List X) (fl : Bool) : RunO O code.md (⟨d, .call 54 xs fl, none, b, i, ap⟩ :: r) fs st Q = (quietOk st (.call 54 xs fl) ap = true ∧ RunQ O code.md (callVal O st b 54 (evalXs st xs) fl) d r fs st Q) := R_call 54 xs fl rfl
theorem rcall55 {O : Oracle} {st : St} {Q : Ex → St → Prop} {fs : List Fr} {d : Option Nat} {b i : Nat} {ap : List X} {r : List IOp} (xs : List X) (fl : Bool) : RunO O code.md (⟨d, .call 55 xs fl, none, b, i, ap⟩ :: r) fs st Q = (quietOk st (.call 55 xs fl) ap = true ∧ RunQ O code.md (callVal O st b 55 (evalXs st xs) fl) d r fs st Q) := R_call 55 xs fl rfl
theorem rcall56 {O : Oracle} {st : St} {Q : Ex → St → Prop} {fs : List Fr} {d : Option Nat} {b i : Nat} {ap : List X} {r : List IOp} (xs : List X) (fl : Bool) : RunO O code.md (⟨d, .call 56 xs fl, none, b, i, ap⟩ :: r) fs st Q = (quietOk st (.call 56 xs fl) ap = true ∧ RunQ O code.md (callVal O st b 56 (evalXs st xs) fl) d r fs st Q) := R_call 56 xs fl rfl
theorem rcall57 {O : Oracle} {st : St} {Q : Ex → St → Prop} {fs : List Fr} {d : Option Nat} {b i : Nat} {ap : List X} {r : List IOp} (xs : List X) (fl : Bool) : RunO O code.md (⟨d, .call 57 xs fl, none, b, i, ap⟩ :: r) fs st Q = (quietOk st (.call 57 xs fl) ap = true ∧ RunQ O code.md (callVal O st b 57 (evalXs st xs) fl) d r fs st Q) := R_call 57 xs fl rfl
theorem rcall65 {O : Oracle} {st : St} {Q : Ex → St → Prop} {fs : List Fr} {d : Option Nat} {b i : Nat} {ap : List X} {r : List IOp} (xs : List X) (fl : Bool) : RunO O code.md (⟨d, .call 65 xs fl, none, b, i, ap⟩ :: r) fs st Q = (quietOk st (.call 65 xs fl) ap = true ∧ RunQ O code.md (callVal O st b 65 (evalXs st xs) fl) d r fs st Q) := R_call 65 xs fl rfl
theorem rcall66 {O : Oracle} {st : St} {Q : Ex → St → Prop} {fs : List Fr} {d : Option Nat} {b i : Nat} {ap : List X} {r : List IOp} (xs : List X) (fl : Bool) : RunO O code.md (⟨d, .call 66 xs fl, none, b, i, ap⟩ :: r) fs st Q = (quietOk st (.call 66 xs fl) ap = true ∧ RunQ O code.md (callVal O st b 66 (evalXs st xs) fl) d r fs st Q) := R_call 66 xs fl rfl
theorem rcall75 {O : Oracle} {st : St} {Q : Ex → St → Prop} {fs : List Fr} {d : Option Nat} {b i : Nat} {ap : List X} {r : List IOp} (xs : List X) (fl : Bool) : RunO O code.md (⟨d, .call 75 xs fl, none, b, i, ap⟩ :: r) fs st Q = (quietOk st (.call 75 xs fl) ap = true ∧ RunQ O code.md (callVal O st b 75 (evalXs st xs) fl) d r fs st Q) := R_call 75 xs fl rfl
theorem rcall77 {O : Oracle} {st : St} {Q : Ex → St → Prop} {fs : List Fr} {d : Option Nat} {b i : Nat} {ap : List X} {r : List IOp} (xs : List X) (fl : Bool) : RunO O code.md (⟨d, .call 77 xs fl, none, b, i, ap⟩ :: r) fs st Q = (quietOk st (.call 77 xs fl) ap = true ∧ RunQ O code.md (callVal O st b 77 (evalXs st xs) fl) d r fs st Q) := R_call 77 xs fl rfl
theorem rcall80 {O : Oracle} {st : St} {Q : Ex → St → Prop} {fs : List Fr} {d : Option Nat} {b i : Nat} {ap : List X} {r : List IOp} (xs : List X) (fl : Bool) : RunO O code.md (⟨d, .call 80 xs fl, none, b, i, ap⟩ :: r) fs st Q = (quietOk st (.call 80 xs fl) ap = true ∧ RunQ O code.md (callVal O st b 80 (evalXs st xs) fl) d r fs st Q) := R_call 80 xs fl rfl
theorem rcall82 {O : Oracle} {st : St} {Q : Ex → St → Prop} {fs : List Fr} {d : Option Nat} {b i : Nat} {ap : List X} {r : List IOp} (xs : List X) (fl : Bool) : RunO O code.md (⟨d, .call 82 xs fl, none, b, i, ap⟩ :: r) fs st Q = (quietOk st (.call 82 xs fl) ap = true ∧ RunQ O code.md (callVal O st b 82 (evalXs st xs) fl) d r fs st Q) := R_call 82 xs fl rfl
theorem rcall83 {O : Oracle} {st : St} {Q : Ex → St → Prop} {fs : List Fr} {d : Option Nat} {b i : Nat} {ap : List X} {r : List IOp} (xs : List X) (fl : Bool) : RunO O code.md (⟨d, .call 83 xs fl, none, b, i, ap⟩ :: r) fs st Q = ((apartOk st (.call 83 xs fl) ap && keyedOk st ap) = true ∧ RunK O code.md (callRef O st b 83 (evalXs st xs) fl) st (.call 83 xs fl) ap d r fs Q) := R_callr 83 xs fl rfl
theorem rcall84 {O : Oracle} {st : St} {Q : Ex → St → Prop} {fs : List Fr} {d : Option Nat} {b i : Nat} {ap : List X} {r : List IOp} (xs : List X) (fl : Bool) : RunO O code.md (⟨d, .call 84 xs fl, none, b, i, ap⟩ :: r) fs st Q = (quietOk st (.call 84 xs fl) ap = true ∧ RunQ O code.md (callVal O st b 84 (evalXs st xs) fl) d r fs st Q) := R_call 84 xs fl rfl
theorem rcall86 {O : Oracle} {st : St} {Q : Ex → St → Prop} {fs : List Fr} {d : Option Nat} {b i : Nat} {ap : List X} {r : List IOp} (xs : List X) (fl : Bool) : RunO O code.md (⟨d, .call 86 xs fl, none, b, i, ap⟩ :: r) fs st Q = (quietOk st (.call 86 xs fl) ap = true ∧ RunQ O code.md (callVal O st b 86 (evalXs st xs) fl) d r fs st Q) := R_call 86 xs fl rfl
theorem rcall88 {O : Oracle} {st : St} {Q : Ex → St → Prop} {fs : List Fr} {d : Option Nat} {b i : Nat} {ap : List X} {r : List IOp} (xs : List X) (fl : Bool) : RunO O code.md (⟨d, .call 88 xs fl, none, b, i, ap⟩ :: r) fs st Q = (quietOk st (.call 88 xs fl) ap = true ∧ RunQ O code.md (callVal O st b 88 (evalXs st xs) fl) d r fs st Q) := R_call 88 xs fl rfl
theorem rcall90 {O : Oracle} {st : St} {Q : Ex → St → Prop} {fs : List Fr} {d : Option Nat} {b i : Nat} {ap : List X} {r : List IOp} (xs : List X) (fl : Bool) : RunO O code.md (⟨d, .call 90 xs fl, none, b, i, ap⟩ :: r) fs st Q = (quietOk st (.call 90 xs fl) ap = true ∧ RunQ O code.md (callVal O st b 90 (evalXs st xs) fl) d r fs st Q) := R_call 90 xs fl rfl
theorem rcall91 {O : Oracle} {st : St} {Q : Ex → St → Prop} {fs : List Fr} {d : Option Nat} {b i : Nat} {ap : List X} {r : List IOp} (xs : List X) (fl : Bool) : RunO O code.md (⟨d, .call 91 xs fl, none, b, i, ap⟩ :: r) fs st Q = (quietOk st (.call 91 xs fl) ap = true ∧ RunQ O code.md (callVal O st b 91 (evalXs st xs) fl) d r fs st Q) := R_call 91 xs fl rfl
theorem rcall92 {O : Oracle} {st : St} {Q : Ex → St → Prop} {fs : List Fr} {d : Option Nat} {b i : Nat} {ap : List X} {r : List IOp} (xs : List X) (fl : Bool) : RunO O code.md (⟨d, .call 92 xs fl, none, b, i, ap⟩ :: r) fs st Q = (quietOk st (.call 92 xs fl) ap = true ∧ RunQ O code.md (callVal O st b 92 (evalXs st xs) fl) d r fs st Q) := R_call 92 xs fl rfl
theorem rcall96 {O : Oracle} {st : St} {Q : Ex → St → Prop} {fs : List Fr} {d : Option Nat} {b i : Nat} {ap : List X} {r : List IOp} (xs : List X) (fl : Bool) : RunO O code.md (⟨d, .call 96 xs fl, none, b, i, ap⟩ :: r) fs st Q = (quietOk st (.call 96 xs fl) ap = true ∧ RunQ O code.md (callVal O st b 96 (evalXs st xs) fl) d r fs st Q) := R_call 96 xs fl rfl
theorem rcall97 {O : Oracle} {st : St} {Q : Ex → St → Prop} {fs : List Fr} {d : Option Nat} {b i : Nat} {ap : List X} {r : List IOp} (xs : List X) (fl : Bool) : RunO O code.md (⟨d, .call 97 xs fl, none, b, i, ap⟩ :: r) fs st Q = (quietOk st (.call 97 xs fl) ap = true ∧ RunQ O code.md (callVal O st b 97 (evalXs st xs) fl) d r fs st Q) := R_call 97 xs fl rfl
theorem rcall98 {O : Oracle} {st : St} {Q : Ex → St → Prop} {fs : List Fr} {d : Option Nat} {b i : Nat} {ap : List X} {r : List IOp} (xs : List X) (fl : Bool) : RunO O code.md (⟨d, .call 98 xs fl, none, b, i, ap⟩ :: r) fs st Q = (quietOk st (.call 98 xs fl) ap = true ∧ RunQ O code.md (callVal O st b 98 (evalXs st xs) fl) d r fs st Q) := R_call 98 xs fl rfl
theorem rcall99 {O : Oracle} {st : St} {Q : Ex → St → Prop} {fs : List Fr} {d : Option Nat} {b i : Nat} {ap : List X} {r : List IOp} (xs : List X) (fl : Bool) : RunO O code.md (⟨d, .call 99 xs fl, none, b, i, ap⟩ :: r) fs st Q = (quietOk st (.call 99 xs fl) ap = true ∧ RunQ O code.md (callVal O st b 99 (evalXs st xs) fl) d r fs st Q) := R_call 99 xs fl rfl
theorem rcall100 {O : Oracle} {st : St} {Q : Ex → St → Prop} {fs : List Fr} {d : Option Nat} {b i : Nat} {ap : List X} {r : List IOp} (xs : List X) (fl : Bool) : RunO O code.md (⟨d, .call 100 xs fl, none, b, i, ap⟩ :: r) fs st Q = (quietOk st (.call 100 xs fl) ap = true ∧ RunQ O code.md (callVal O st b 100 (evalXs st xs) fl) d r fs st Q) := R_call 100 xs fl rfl
theorem rcall101 {O : Oracle} {st : St} {Q : Ex → St → Prop} {fs : List Fr} {d : Option Nat} {b i : Nat} {ap : List X} {r : List IOp} (xs : List X) (fl : Bool) : RunO O code.md (⟨d, .call 101 xs fl, none, b, i, ap⟩ :: r) fs st Q = (quietOk st (.call 101 xs fl) ap = true ∧ RunQ O code.md (callVal O st b 101 (evalXs st xs) fl) d r fs st Q) := R_call 101 xs fl rfl
theorem rcall102 {O : Oracle} {st : St} {Q : Ex → St → Prop} {fs : List Fr} {d : Option Nat} {b i : Nat} {ap : List X} {r : List IOp} (xs : List X) (fl : Bool) : RunO O code.md (⟨d, .call 102 xs fl, none, b, i, ap⟩ :: r) fs st Q = (quietOk st (.call 102 xs fl) ap = true ∧ RunQ O code.md (callVal O st b 102 (evalXs st xs) fl) d r fs st Q) := R_call 102 xs fl rfl
theorem rcall103 {O : Oracle} {st : St} {Q : Ex → St → Prop} {fs : List Fr} {d : Option Nat} {b i : Nat} {ap : List X} {r : List IOp} (xs : List X) (fl : Bool) : RunO O code.md (⟨d, .call 103 xs fl, none, b, i, ap⟩ :: r) fs st Q = (quietOk st (.call 103 xs fl) ap = true ∧ RunQ O code.md (callVal O st b 103 (evalXs st xs) fl) d r fs st Q) := R_call 103 xs fl rfl
theorem rcall105 {O : Oracle} {st : St} {Q : Ex → St → Prop} {fs : List Fr} {d : Option Nat} {b i : Nat} {ap : List X} {r : List IOp} (xs : List X) (fl : Bool) : RunO O code.md (⟨d, .call 105 xs fl, none, b, i, ap⟩ :: r) fs st Q = (quietOk st (.call 105 xs fl) ap = true ∧ RunQ O code.md (callVal O st b 105 (evalXs st xs) fl) d r fs st Q) := R_call 105 xs fl rfl
theorem rcall106 {O : Oracle} {st : St} {Q : Ex → St → Prop} {fs : List Fr} {d : Option Nat} {b i : Nat} {ap : List X} {r : List IOp} (xs : List X) (fl : Bool) : RunO O code.md (⟨d, .call 106 xs fl, none, b, i, ap⟩ :: r) fs st Q = (quietOk st (.call 106 xs fl) ap = true ∧ RunQ O code.md (callVal O st b 106 (evalXs st xs) fl) d r fs st Q) := R_call 106 xs fl rfl
theorem rcall107 {O : Oracle} {st : St} {Q : Ex → St → Prop} {fs : List Fr} {d : Option Nat} {b i : Nat} {ap : List X} {r : List IOp} (xs : List X) (fl : Bool) : RunO O code.md (⟨d, .call 107 xs fl, none, b, i, ap⟩ :: r) fs st Q = (quietOk st (.call 107 xs fl) ap = true ∧ RunQ O code.md (callVal O st b 107 (evalXs st xs) fl) d r fs st Q) := R_call 107 xs fl rfl
theorem rcall108 {O : Oracle} {st : St} {Q : Ex → St → Prop} {fs : List Fr} {d : Option Nat} {b i : Nat} {ap : List X} {r : List IOp} (xs : List X) (fl : Bool) : RunO O code.md (⟨d, .call 108 xs fl, none, b, i, ap⟩ :: r) fs st Q = (quietOk st (.call 108 xs fl) ap = true ∧ RunQ O code.md (callVal O st b 108 (evalXs st xs) fl) d r fs st Q) := R_call 108 xs fl rfl
theorem rcall109 {O : Oracle} {st : St} {Q : Ex → St → Prop} {fs : List Fr} {d : Option Nat} {b i : Nat} {ap : List X} {r : List IOp} (xs : List X) (fl : Bool) : RunO O code.md (⟨d, .call 109 xs fl, none, b, i, ap⟩ :: r) fs st Q = (quietOk st (.call 109 xs fl) ap = true ∧ RunQ O code.md (callVal O st b 109 (evalXs st xs) fl) d r fs st Q) := R_call 109 xs fl rfl
theorem rcall110 {O : Oracle} {st : St} {Q : Ex → St → Prop} {fs : List Fr} {d : Option Nat} {b i : Nat} {ap : List X} {r : List IOp} (xs : List X) (fl : Bool) : RunO O code.md (⟨d, .call 110 xs fl, none, b, i, ap⟩ :: r) fs st Q = (quietOk st (.call 110 xs fl) ap = true ∧ RunQ O code.md (callVal O st b 110 (evalXs st xs) fl) d r fs st Q) := R_call 110 xs fl rfl
theorem rcall111 {O : Oracle} {st : St} {Q : Ex → St → Prop} {fs : List Fr} {d : Option Nat} {b i : Nat} {ap : List X} {r : List IOp} (xs : List X) (fl : Bool) : RunO O code.md (⟨d, .call 111 xs fl, none, b, i, ap⟩ :: r) fs st Q = (quietOk st (.call 111 xs fl) ap = true ∧ RunQ O code.md (callVal O st b 111 (evalXs st xs) fl) d r fs st Q) := R_call 111 xs fl rfl
theorem rcall112 {O : Oracle} {st : St} {Q : Ex → St → Prop} {fs : List Fr} {d : Option Nat} {b i : Nat} {ap : List X} {r : List IOp} (xs : List X) (fl : Bool) : RunO O code.md (⟨d, .call 112 xs fl, none, b, i, ap⟩ :: r) fs st Q = (quietOk st (.call 112 xs fl) ap = true ∧ RunQ O code.md (callVal O st b 112 (evalXs st xs) fl) d r fs st Q) := R_call 112 xs fl rfl
theorem rcall115 {O : Oracle} {st : St} {Q : Ex → St → Prop} {fs : List Fr} {d : Option Nat} {b i : Nat} {ap : List X} {r : List IOp} (xs : List X) (fl : Bool) : RunO O code.md (⟨d, .call 115 xs fl, none, b, i, ap⟩ :: r) fs st Q = (quietOk st (.call 115 xs fl) ap = true ∧ RunQ O code.md (callVal O st b 115 (evalXs st xs) fl) d r fs st Q) := R_call 115 xs fl rfl
theorem rcall122 {O : Oracle} {st : St} {Q : Ex → St → Prop} {fs : List Fr} {d : Option Nat} {b i : Nat} {ap : List X} {r : List IOp} (xs : List X) (fl : Bool) : RunO O code.md (⟨d, .call 122 xs fl, none, b, i, ap⟩ :: r) fs st Q = ((apartOk st (.call 122 xs fl) ap && keyedOk st ap) = true ∧ RunK O code.md (callRef O st b 122 (evalXs st xs) fl) st (.call 122 xs fl) ap d r fs Q) := R_callr 122 xs fl rfl
theorem rcall124 {O : Oracle} {st : St} {Q : Ex → St → Prop} {fs : List Fr} {d : Option Nat} {b i : Nat} {ap : List X} {r : List IOp} (xs : List X) (fl : Bool) : RunO O code.md (⟨d, .call 124 xs fl, none, b, i, ap⟩ :: r) fs st Q = (quietOk st (.call 124 xs fl) ap = true ∧ RunQ O code.md (callVal O st b 124 (evalXs st xs) fl) d r fs st Q) := R_call 124 xs fl rfl
theorem rcall128 {O : Oracle} {st : St} {Q : Ex → St → Prop} {fs : List Fr} {d : Option Nat} {b i : Nat} {ap : List X} {r : List IOp} (xs : List X) (fl : Bool) : RunO O code.md (⟨d, .call 128 xs fl, none, b, i, ap⟩ :: r) fs st Q = (quietOk st (.call 128 xs fl) ap = true ∧ RunQ O code.md (callVal O st b 128 (evalXs st xs) fl) d r fs st Q) := R_call 128 xs fl rfl
theorem rcall129 {O : Oracle} {st : St} {Q : Ex → St → Prop} {fs : List Fr} {d : Option Nat} {b i : Nat} {ap : List X} {r : List IOp} (xs : List X) (fl : Bool) : RunO O code.md (⟨d, .call 129 xs fl, none, b, i, ap⟩ :: r) fs st Q = (quietOk st (.call 129 xs fl) ap = true ∧ RunQ O code.md (callVal O st b 129 (evalXs st xs) fl) d r fs st Q) := R_call 129 xs fl rfl
theorem rcall130 {O : Oracle} {st : St} {Q : Ex → St → Prop} {fs : List Fr} {d : Option Nat} {b i : Nat} {ap : List X} {r : List IOp} (xs : List X) (fl : Bool) : RunO O code.md (⟨d, .call 130 xs fl, none, b, i, ap⟩ :: r) fs st Q = (quietOk st (.call 130 xs fl) ap = true ∧ RunQ O code.md (callVal O st b 130 (evalXs st xs) fl) d r fs st Q) := R_call 130 xs fl rfl
theorem rcall131 {O : Oracle} {st : St} {Q : Ex → St → Prop} {fs : List Fr} {d : Option Nat} {b i : Nat} {ap : List X} {r : List IOp} (xs : List X) (fl : Bool) : RunO O code.md (⟨d, .call 131 xs fl, none, b, i, ap⟩ :: r) fs st Q = (quietOk st (.call 131 xs fl) ap = true ∧ RunQ O code.md (callVal O st b 131 (evalXs st xs) fl) d r fs st Q) := R_call 131 xs fl rfl
theorem rcall132 {O : Oracle} {st : St} {Q : Ex → St → Prop} {fs : List Fr} {d : Option Nat} {b i : Nat} {ap : List X} {r : List IOp} (xs : List X) (fl : Bool) : RunO O code.md (⟨d, .call 132 xs fl, none, b, i, ap⟩ :: r) fs st Q = (quietOk st (.call 132 xs fl) ap = true ∧ RunQ O code.md (callVal O st b 132 (evalXs st xs) fl) d r fs st Q) := R_call 132 xs fl rfl
theorem rcall133 {O : Oracle} {st : St} {Q : Ex → St → Prop} {fs : List Fr} {d : Option Nat} {b i : Nat} {ap : List X} {r : List IOp} (xs : List X) (fl : Bool) : RunO O code.md (⟨d, .call 133 xs fl, none, b, i, ap⟩ :: r) fs st Q = (quietOk st (.call 133 xs fl) ap = true ∧ RunQ O code.md (callVal O st b 133 (evalXs st xs) fl) d r fs st Q) := R_call 133 xs fl rfl
theorem rcall134 {O : Oracle} {st : St} {Q : Ex → St → Prop} {fs : List Fr} {d : Option Nat} {b i : Nat} {ap : List X} {r : List IOp} (xs : List X) (fl : Bool) : RunO O code.md (⟨d, .call 134 xs fl, none, b, i, ap⟩ :: r) fs st Q = ((apartOk st (.call 134 xs fl) ap && keyedOk st ap) = true ∧ RunK O code.md (callRef O st b 134 (evalXs st xs) fl) st (.call 134 xs fl) ap d r fs Q) := R_callr 134 xs fl rfl
theorem rcall136 {O : Oracle} {st : St} {Q : Ex → St → Prop} {fs : List Fr} {d : Option Nat} {b i : Nat} {ap : List X} {r : List IOp} (xs : List X) (fl : Bool) : RunO O code.md (⟨d, .call 136 xs fl, none, b, i, ap⟩ :: r) fs st Q = (quietOk st (.call 136 xs fl) ap = true ∧ RunQ O code.md (callVal O st b 136 (evalXs st xs) fl) d r fs st Q) := R_call 136 xs fl rfl
theorem rcall138 {O : Oracle} {st : St} {Q : Ex → St → Prop} {fs : List Fr} {d : Option Nat} {b i : Nat} {ap : List X} {r : List IOp} (xs : List X) (fl : Bool) : RunO O code.md (⟨d, .call 138 xs fl, none, b, i, ap⟩ :: r) fs st Q = (quietOk st (.call 138 xs fl) ap = true ∧ RunQ O code.md (callVal O st b 138 (evalXs st xs) fl) d r fs st Q) := R_call 138 xs fl rfl
theorem rcall139 {O : Oracle} {st : St} {Q : Ex → St → Prop} {fs : List Fr} {d : Option Nat} {b i : Nat} {ap : List X} {r : List IOp} (xs : List X) (fl : Bool) : RunO O code.md (⟨d, .call 139 xs fl, none, b, i, ap⟩ :: r) fs st Q = (quietOk st (.call 139 xs fl) ap = true ∧ RunQ O code.md (callVal O st b 139 (evalXs st xs) fl) d r fs st Q) := R_call 139 xs fl rfl
theorem rcall140 {O : Oracle} {st : St} {Q : Ex → St → Prop} {fs : List Fr} {d : Option Nat} {b i : Nat} {ap : List X} {r : List IOp} (xs : List X) (fl : Bool) : RunO O code.md (⟨d, .call 140 xs fl, none, b, i, ap⟩ :: r) fs st Q = (quietOk st (.call 140 xs fl) ap = true ∧ RunQ O code.md (callVal O st b 140 (evalXs st xs) fl) d r fs st Q) := R_call 140 xs fl rfl
theorem rcall141 {O : Oracle} {st : St} {Q : Ex → St → Prop} {fs : List Fr} {d : Option Nat} {b i : Nat} {ap : List X} {r : List IOp} (xs : List X) (fl : Bool) : RunO O code.md (⟨d, .call 141 xs fl, none, b, i, ap⟩ :: r) fs st Q = (quietOk st (.call 141 xs fl) ap = true ∧ RunQ O code.md (callVal O st b 141 (evalXs st xs) fl) d r fs st Q) := R_call 141 xs fl rfl
theorem rcall142 {O : Oracle} {st : St} {Q : Ex → St → Prop} {fs : List Fr} {d : Option Nat} {b i : Nat} {ap : List X} {r : List IOp} (xs : List X) (fl : Bool) : RunO O code.md (⟨d, .call 142 xs fl, none, b, i, ap⟩ :: r) fs st Q = (quietOk st (.call 142 xs fl) ap = true ∧ RunQ O code.md (callVal O st b 142 (evalXs st xs) fl) d r fs st Q) := R_call 142 xs fl rfl
theorem rcall143 {O : Oracle} {st : St} {Q : Ex → St → Prop} {fs : List Fr} {d : Option Nat} {b i : Nat} {ap : List X} {r : List IOp} (xs : List X) (fl : Bool) : RunO O code.md (⟨d, .call 143 xs fl, none, b, i, ap⟩ :: r) fs st Q = (quietOk st (.call 143 xs fl) ap = true ∧ RunQ O code.md (callVal O st b 143 (evalXs st xs) fl) d r fs st Q) := R_call 143 xs fl rfl
theorem rcall146 {O : Oracle} {st : St} {Q : Ex → St → Prop} {fs : List Fr} {d : Option Nat} {b i : Nat} {ap : List X} {r : List IOp} (xs : List X) (fl : Bool) : RunO O code.md (⟨d, .call 146 xs fl, none, b, i, ap⟩ :: r) fs st Q = (quietOk st (.call 146 xs fl) ap = true ∧ RunQ O code.md (callVal O st b 146 (evalXs st xs) fl) d r fs st Q) := R_call 146 xs fl rfl
theorem rcall147 {O : Oracle} {st : St} {Q : Ex → St → Prop} {fs : List Fr} {d : Option Nat} {b i : Nat} {ap : List X} {r : List IOp} (xs : List X) (fl : Bool) : RunO O code.md (⟨d, .call 147 xs fl, none, b, i, ap⟩ :: r) fs st Q = (quietOk st (.call 147 xs fl) ap = true ∧ RunQ O code.md (callVal O st b 147 (evalXs st xs) fl) d r fs st Q) := R_call 147 xs fl rfl
theorem rcall148 {O : Oracle} {st : St} {Q : Ex → St → Prop} {fs : List Fr} {d : Option Nat} {b i : Nat} {ap : List X} {r : List IOp} (xs : List X) (fl : Bool) : RunO O code.md (⟨d, .call 148 xs fl, none, b, i, ap⟩ :: r) fs st Q = ((apartOk st (.call 148 xs fl) ap && keyedOk st ap) = true ∧ RunK O code.md (callRef O st b 148 (evalXs st xs) fl) st (.call 148 xs fl) ap d r fs Q) := R_callr 148 xs fl rfl
theorem rcall149 {O : Oracle} {st : St} {Q : Ex → St → Prop} {fs : List Fr} {d : Option Nat} {b i : Nat} {ap : List X} {r : List IOp} (xs : List X) (fl : Bool) : RunO O code.md (⟨d, .call 149 xs fl, none, b, i, ap⟩ :: r) fs st Q = (quietOk st (.call 149 xs fl) ap = true ∧ RunQ O code.md (callVal O st b 149 (evalXs st xs) fl) d r fs st Q) := R_call 149 xs fl rfl
theorem rcall150 {O : Oracle} {st : St} {Q : Ex → St → Prop} {fs : List Fr} {d : Option Nat} {b i : Nat} {ap : List X} {r : List IOp} (xs : List X) (fl : Bool) : RunO O code.md (⟨d, .call 150 xs fl, none, b, i, ap⟩ :: r) fs st Q = (quietOk st (.call 150 xs fl) ap = true ∧ RunQ O code.md (callVal O st b 150 (evalXs st xs) fl) d r fs st Q) := R_call 150 xs fl rfl
theorem rcall153 {O : Oracle} {st : St} {Q : Ex → St → Prop} {fs : List Fr} {d : Option Nat} {b i : Nat} {ap : List X} {r : List IOp} (xs : List X) (fl : Bool) : RunO O code.md (⟨d, .call 153 xs fl, none, b, i, ap⟩ :: r) fs st Q = (quietOk st (.call 153 xs fl) ap = true ∧ RunQ O code.md (callVal O st b 153 (evalXs st xs) fl) d r fs st Q) := R_call 153 xs fl rfl
theorem rcall154 {O : Oracle} {st : St} {Q : Ex → St → Prop} {fs : List Fr} {d : Option Nat} {b i : Nat} {ap : List X} {r : List IOp} (xs : List X) (fl : Bool) : RunO O code.md (⟨d, .call 154 xs fl, none, b, i, ap⟩ :: r) fs st Q = (quietOk st (.call 154 xs fl) ap = true ∧ RunQ O code.md (callVal O st b 154 (evalXs st xs) fl) d r fs st Q) := R_call 154 xs fl rfl
theorem rcall155 {O : Oracle} {st : St} {Q : Ex → St → Prop} {fs : List Fr} {d : Option Nat} {b i : Nat} {ap : List X} {r : List IOp} (xs : List X) (fl : Bool) : RunO O code.md (⟨d, .call 155 xs fl, none, b, i, ap⟩ :: r) fs st Q = (quietOk st (.call 155 xs fl) ap = true ∧ RunV O code.md (callView O st 155 (evalXs st xs)) d r fs st Q) := R_callv' 155 xs fl rfl
theorem rcall156 {O : Oracle} {st : St} {Q : Ex → St → Prop} {fs : List Fr} {d : Option Nat} {b i : Nat} {ap : List X} {r : List IOp} (xs : List X) (fl : Bool) : RunO O code.md (⟨d, .call 156 xs fl, none, b, i, ap⟩ :: r) fs st Q = ((apartOk st (.call 156 xs fl) ap && keyedOk st ap) = true ∧ RunK O code.md (callRef O st b 156 (evalXs st xs) fl) st (.call 156 xs fl) ap d r fs Q) := R_callr 156 xs fl rfl
theorem rcall157 {O : Oracle} {st : St} {Q : Ex → St → Prop} {fs : List Fr} {d : Option Nat} {b i : Nat} {ap : List X} {r : List IOp} (xs : List X) (fl : Bool) : RunO O code.md (⟨d, .call 157 xs fl, none, b, i, ap⟩ :: r) fs st Q = (quietOk st (.call 157 xs fl) ap = true ∧ RunQ O code.md (callVal O st b 157 (evalXs st xs) fl) d r fs st Q) := R_call 157 xs fl rfl
theorem rcall158 {O : Oracle} {st : St} {Q : Ex → St → Prop} {fs : List Fr} {d : Option Nat} {b i : Nat} {ap : List X} {r : List IOp} (xs : List X) (fl : Bool) : RunO O code.md (⟨d, .call 158 xs fl, none, b, i, ap⟩ :: r) fs st Q = (quietOk st (.call 158 xs fl) ap = true ∧ RunQ O code.md (callVal O st b 158 (evalXs st xs) fl) d r fs st Q) := R_call 158 xs fl rfl
theorem rcall159 {O : Oracle} {st : St} {Q : Ex → St → Prop} {fs : List Fr} {d : Option Nat} {b i : Nat} {ap : List X} {r : List IOp} (xs : List X) (fl : Bool) : RunO O code.md (⟨d, .call 159 xs fl, none, b, i, ap⟩ :: r) fs st Q = (quietOk st (.call 159 xs fl) ap = true ∧ RunQ O code.md (callVal O st b 159 (evalXs st xs) fl) d r fs st Q) := R_call 159 xs fl rfl
theorem rcall160 {O : Oracle} {st : St} {Q : Ex → St → Prop} {fs : List Fr} {d : Option Nat} {b i : Nat} {ap : List X} {r : List IOp} (xs : List X) (fl : Bool) : RunO O code.md (⟨d, .call 160 xs fl, none, b, i, ap⟩ :: r) fs st Q = (quietOk st (.call 160 xs fl) ap = true ∧ RunQ O code.md (callVal O st b 160 (evalXs st xs) fl) d r fs st Q) := R_call 160 xs fl rfl
theorem rcall161 {O : Oracle} {st : St} {Q : Ex → St → Prop} {fs : List Fr} {d : Option Nat} {b i : Nat} {ap : List X} {r : List IOp} (xs : List X) (fl : Bool) : RunO O code.md (⟨d, .call 161 xs fl, none, b, i, ap⟩ :: r) fs st Q = (quietOk st (.call 161 xs fl) ap = true ∧ RunQ O code.md (callVal O st b 161 (evalXs st xs) fl) d r fs st Q) := R_call 161 xs fl rfl
theorem rcall162 {O : Oracle} {st : St} {Q : Ex → St → Prop} {fs : List Fr} {d : Option Nat} {b i : Nat} {ap : List X} {r : List IOp} (xs : List X) (fl : Bool) : RunO O code.md (⟨d, .call 162 xs fl, none, b, i, ap⟩ :: r) fs st Q = (quietOk st (.call 162 xs fl) ap = true ∧ RunQ O code.md (callVal O st b 162 (evalXs st xs) fl) d r fs st Q) := R_call 162 xs fl rfl
theorem rcall163 {O : Oracle} {st : St} {Q : Ex → St → Prop} {fs : List Fr} {d : Option Nat} {b i : Nat} {ap : List X} {r : List IOp} (xs : List X) (fl : Bool) : RunO O code.md (⟨d, .call 163 xs fl, none, b, i, ap⟩ :: r) fs st Q = (quietOk st (.call 163 xs fl) ap = true ∧ RunQ O code.md (callVal O st b 163 (evalXs st xs) fl) d r fs st Q) := R_call 163 xs fl rfl
theorem rcall167 {O : Oracle} {st : St} {Q : Ex → St → Prop} {fs : List Fr} {d : Option Nat} {b i : Nat} {ap : List X} {r : List IOp} (xs : List X) (fl : Bool) : RunO O code.md (⟨d, .call 167 xs fl, none, b, i, ap⟩ :: r) fs st Q = (quietOk st (.call 167 xs fl) ap = true ∧ RunQ O code.md (callVal O st b 167 (evalXs st xs) fl) d r fs st Q) := R_call 167 xs fl rfl
theorem rcall168 {O : Oracle} {st : St} {Q : Ex → St → Prop} {fs : List Fr} {d : Option Nat} {b i : Nat} {ap : List X} {r : List IOp} (xs : List X) (fl : Bool) : RunO O code.md (⟨d, .call 168 xs fl, none, b, i, ap⟩ :: r) fs st Q = (quietOk st (.call 168 xs fl) ap = true ∧ RunQ O code.md (callVal O st b 168 (evalXs st xs) fl) d r fs st Q) := R_call 168 xs fl rfl
theorem rcall169 {O : Oracle} {st : St} {Q : Ex → St → Prop} {fs : List Fr} {d : Option Nat} {b i : Nat} {ap : List X} {r : List IOp} (xs : List X) (fl : Bool) : RunO O code.md (⟨d, .call 169 xs fl, none, b, i, ap⟩ :: r) fs st Q = ((apartOk st (.call 169 xs fl) ap && keyedOk st ap) = true ∧ RunK O code.md (callRef O st b 169 (evalXs st xs) fl) st (.call 169 xs fl) ap d r fs Q) := R_callr 169 xs fl rfl
theorem rcall170 {O : Oracle} {st : St} {Q : Ex → St → Prop} {fs : List Fr} {d : Option Nat} {b i : Nat} {ap : List X} {r : List IOp} (xs : List X) (fl : Bool) : RunO O code.md (⟨d, .call 170 xs fl, none, b, i, ap⟩ :: r) fs st Q = ((apartOk st (.call 170 xs fl) ap && keyedOk st ap) = true ∧ RunK O code.md (callRef O st b 170 (evalXs st xs) fl) st (.call 170 xs fl) ap d r fs Q) := R_callr 170 xs fl rfl
theorem rcall173 {O : Oracle} {st : St} {Q : Ex → St → Prop} {fs : List Fr} {d : Option Nat} {b i : Nat} {ap : List X} {r : List IOp} (xs : List X) (fl : Bool) : RunO O code.md (⟨d, .call 173 xs fl, none, b, i, ap⟩ :: r) fs st Q = (quietOk st (.call 173 xs fl) ap = true ∧ RunQ O code.md (callVal O st b 173 (evalXs st xs) fl) d r fs st Q) := R_call 173 xs fl rfl
theorem rcall174 {O : Oracle} {st : St} {Q : Ex → St → Prop} {fs : List Fr} {d : Option Nat} {b i : Nat} {ap : List X} {r : List IOp} (xs : List X) (fl : Bool) : RunO O code.md (⟨d, .call 174 xs fl, none, b, i, ap⟩ :: r) fs st Q = (quietOk st (.call 174 xs fl) ap = true ∧ RunQ O code.md (callVal O st b 174 (evalXs st xs) fl) d r fs st Q) := R_call 174 xs fl rfl
theorem rcall175 {O : Oracle} {st : St} {Q : Ex → St → Prop} {fs : List Fr} {d : Option Nat} {b i : Nat} {ap : List X} {r : List IOp} (xs : List X) (fl : Bool) : RunO O code.md (⟨d, .call 175 xs fl, none, b, i, ap⟩ :: r) fs st Q = (quietOk st (.call 175 xs fl) ap = true ∧ RunQ O code.md (callVal O st b 175 (evalXs st xs) fl) d r fs st Q) := R_call 175 xs fl rfl
end Go.Ae.C3
