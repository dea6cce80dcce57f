/- The code of the functions, for the evaluator. -/
import Derived.Test.YtppcbpmnfahnkaaAeL6
namespace Go.Ae.M2

def md : Nat → Mode
  | 12 => .ref
  | 33 => .ref
  | 40 => .view
  | 52 => .ref
  | 53 => .ref
  | 66 => .ref
  | 67 => .ref
  | 71 => .ref
  | 72 => .ref
  | 74 => .ref
  | 75 => .ref
  | _ => .val
/-- loop.example/g00849/laws.FnAnyRows -/
def F5 : F := ⟨1, 123, [.t 2],
 .seq (.reg [⟨(some 2), .mv (.k (.bool false)), none, 0, 0, []⟩])
 (.seq (.seq (.reg [⟨(some 20), .mv (.t 0), none, 65536, 0, []⟩,
   ⟨(some 21), .len false (.t 20), none, 65792, 1, []⟩,
   ⟨(some 22), .bin .gtr (.t 21) (.k (.int .i64 1048576)), none, 66048, 2, []⟩])
 (.cond (.t 22)
  (.seq (.reg [⟨(some 2), .mv (.k (.bool true)), none, 131072, 0, []⟩])
  (.ret))
  (.skip)))
 (.seq (.reg [⟨(some 23), .mv (.t 0), none, 196608, 0, []⟩,
   ⟨(some 24), .call 18 [(.t 23), (.k (.int .i64 0)), (.k (.int .i64 6))] true, none, 196864, 1, []⟩,
   ⟨(some 25), .bin .add (.k (.int .i64 1)) (.t 24), none, 197120, 2, []⟩,
   ⟨(some 3), .mv (.t 25), none, 197376, 3, []⟩])
 (.seq (.reg [⟨(some 26), .mv (.t 0), none, 262144, 0, []⟩,
   ⟨(some 27), .mv (.t 3), none, 262400, 1, []⟩,
   ⟨(some 28), .bin .sub (.k (.int .i64 9)) (.t 27), none, 262656, 2, []⟩,
   ⟨(some 29), .call 18 [(.t 26), (.k (.int .i64 1)), (.t 28)] true, none, 262912, 3, []⟩,
   ⟨(some 4), .mv (.t 29), none, 263168, 4, []⟩])
 (.seq (.reg [⟨(some 31), .mv (.t 3), none, 327680, 0, []⟩,
   ⟨(some 32), .mv (.t 4), none, 327936, 1, []⟩,
   ⟨(some 33), .call 10 [(.t 31), (.t 32)] false, none, 328192, 2, []⟩,
   ⟨(some 30), .mv (.t 33), none, 328448, 3, []⟩,
   ⟨(some 34), .ext (.t 30) 0, none, 328704, 4, []⟩,
   ⟨(some 35), .ext (.t 30) 1, none, 328960, 5, []⟩,
   ⟨(some 5), .alloc [(.int .i64 0), (.int .i64 0), (.nil true 1)], none, 329216, 6, []⟩,
   ⟨none, .store 3 (.t 5) (.t 34), none, 329472, 7, []⟩,
   ⟨(some 6), .mv (.t 35), none, 329728, 8, []⟩])
 (.seq (.reg [⟨(some 36), .mv (.t 0), none, 393216, 0, []⟩,
   ⟨(some 37), .mv (.t 3), none, 393472, 1, []⟩,
   ⟨(some 38), .mv (.t 3), none, 393728, 2, []⟩,
   ⟨(some 39), .mv (.t 4), none, 393984, 3, []⟩,
   ⟨(some 40), .bin .add (.t 38) (.t 39), none, 394240, 4, []⟩,
   ⟨(some 41), .call 19 [(.t 36), (.t 37), (.t 40)] false, none, 394496, 5, []⟩,
   ⟨(some 7), .mv (.t 41), none, 394752, 6, []⟩])
 (.seq (.reg [⟨(some 43), .load 3 true (.t 5), none, 458752, 0, []⟩,
   ⟨(some 44), .mv (.t 7), none, 459008, 1, []⟩,
   ⟨(some 45), .call 20 [(.t 43), (.t 44)] false, none, 459264, 2, []⟩,
   ⟨(some 42), .mv (.t 45), none, 459520, 3, []⟩,
   ⟨(some 46), .ext (.t 42) 0, none, 459776, 4, []⟩,
   ⟨(some 47), .ext (.t 42) 1, none, 460032, 5, []⟩,
   ⟨(some 8), .alloc [(.int .i64 0), (.int .i64 0), (.nil true 1)], none, 460288, 6, []⟩,
   ⟨none, .store 3 (.t 8) (.t 46), none, 460544, 7, []⟩,
   ⟨(some 9), .mv (.t 47), none, 460800, 8, []⟩])
 (.seq (.reg [⟨(some 49), .load 3 true (.t 8), none, 524288, 0, []⟩,
   ⟨(some 50), .call 21 [(.t 49)] false, none, 524544, 1, []⟩,
   ⟨(some 48), .mv (.t 50), none, 524800, 2, []⟩,
   ⟨(some 51), .ext (.t 48) 0, none, 525056, 3, []⟩,
   ⟨(some 52), .ext (.t 48) 1, none, 525312, 4, []⟩,
   ⟨(some 10), .alloc [(.int .i64 0), (.int .i64 0), (.nil true 1)], none, 525568, 5, []⟩,
   ⟨none, .store 3 (.t 10) (.t 51), none, 525824, 6, []⟩,
   ⟨(some 11), .mv (.t 52), none, 526080, 7, []⟩])
 (.seq (.reg [⟨(some 54), .load 3 true (.t 8), none, 589824, 0, []⟩,
   ⟨(some 55), .load 3 true (.t 10), none, 590080, 1, []⟩,
   ⟨(some 56), .call 17 [(.t 54), (.t 55)] false, none, 590336, 2, []⟩,
   ⟨(some 53), .mv (.t 56), none, 590592, 3, []⟩,
   ⟨(some 57), .ext (.t 53) 0, none, 590848, 4, []⟩,
   ⟨(some 58), .ext (.t 53) 1, none, 591104, 5, []⟩,
   ⟨(some 12), .alloc [(.int .i64 0), (.int .i64 0), (.nil true 1)], none, 591360, 6, []⟩,
   ⟨none, .store 3 (.t 12) (.t 57), none, 591616, 7, []⟩,
   ⟨(some 13), .mv (.t 58), none, 591872, 8, []⟩])
 (.seq (.reg [⟨(some 60), .mv (.t 3), none, 655360, 0, []⟩,
   ⟨(some 61), .call 22 [(.t 60)] false, none, 655616, 1, []⟩,
   ⟨(some 59), .mv (.t 61), none, 655872, 2, []⟩,
   ⟨(some 62), .ext (.t 59) 0, none, 656128, 3, []⟩,
   ⟨(some 63), .ext (.t 59) 1, none, 656384, 4, []⟩,
   ⟨(some 14), .alloc [(.int .i64 0), (.int .i64 0), (.nil true 1)], none, 656640, 5, []⟩,
   ⟨none, .store 3 (.t 14) (.t 62), none, 656896, 6, []⟩,
   ⟨(some 15), .mv (.t 63), none, 657152, 7, []⟩])
 (.seq (.reg [⟨(some 64), .bslice true 1 [(.int .i64 0)] 0 [], none, 720896, 0, []⟩,
   ⟨(some 16), .mv (.t 64), none, 721152, 1, []⟩])
 (.seq (.seq (.reg [⟨(some 17), .mv (.k (.int .i64 0)), none, 786432, 0, []⟩])
 (.block 0 (.loop [3, 4, 5, 6, 9, 11, 12, 13, 14, 15, 16, 17] [328192, 328193, 328194, 328195, 329216, 329219, 329473, 329474, 329475, 394496, 394497, 394498, 394499, 459264, 459265, 459266, 459267, 460288, 460291, 460545, 460546, 460547, 524544, 524545, 524546, 524547, 525568, 525571, 525825, 525826, 525827, 590336, 590337, 590338, 590339, 591360, 591363, 591617, 591618, 591619, 655616, 655617, 655618, 655619, 656640, 656643, 656897, 656898, 656899, 720896, 1049088, 1049089, 1049090, 1049091, 1050112, 1050115, 1050369, 1050370, 1050371]
  (.seq (.seq (.reg [⟨(some 65), .mv (.t 17), none, 851968, 0, []⟩,
    ⟨(some 66), .mv (.t 3), none, 852224, 1, []⟩,
    ⟨(some 67), .bin .lss (.t 65) (.t 66), none, 852480, 2, []⟩])
  (.cond (.t 67)
   (.skip)
   (.exit 0)))
  (.seq (.block 1 (.reg [⟨(some 70), .mv (.t 16), none, 983040, 0, []⟩,
    ⟨(some 71), .mv (.t 17), none, 983296, 1, []⟩,
    ⟨(some 72), .bslice true 1 [(.int .i64 0)] 1 [(0, (.t 71))], none, 983552, 2, []⟩,
    ⟨(some 73), .app true 1 8 (.t 70) (.t 72), none, 983808, 3, []⟩,
    ⟨(some 16), .mv (.t 73), none, 984064, 4, []⟩]))
  (.reg [⟨(some 68), .mv (.t 17), none, 917504, 0, []⟩,
    ⟨(some 69), .bin .add (.t 68) (.k (.int .i64 1)), none, 917760, 1, []⟩,
    ⟨(some 17), .mv (.t 69), none, 918016, 2, []⟩]))))))
 (.seq (.reg [⟨(some 75), .load 3 true (.t 5), none, 1048576, 0, []⟩,
   ⟨(some 76), .mv (.t 16), none, 1048832, 1, []⟩,
   ⟨(some 77), .call 20 [(.t 75), (.t 76)] false, none, 1049088, 2, []⟩,
   ⟨(some 74), .mv (.t 77), none, 1049344, 3, []⟩,
   ⟨(some 78), .ext (.t 74) 0, none, 1049600, 4, []⟩,
   ⟨(some 79), .ext (.t 74) 1, none, 1049856, 5, []⟩,
   ⟨(some 18), .alloc [(.int .i64 0), (.int .i64 0), (.nil true 1)], none, 1050112, 6, []⟩,
   ⟨none, .store 3 (.t 18) (.t 78), none, 1050368, 7, []⟩,
   ⟨(some 19), .mv (.t 79), none, 1050624, 8, []⟩])
 (.seq (.reg [⟨(some 80), .mv (.t 6), none, 1114112, 0, []⟩,
   ⟨(some 81), .bin .eql (.t 80) (.k (.int .i64 0)), none, 1114368, 1, []⟩,
   ⟨(some 82), .mv (.t 81), none, 1114624, 2, []⟩,
   ⟨(some 83), .mv (.t 9), (some (some 82, true)), 1114880, 3, []⟩,
   ⟨(some 84), .bin .eql (.t 83) (.k (.int .i64 0)), (some (some 82, true)), 1115136, 4, []⟩,
   ⟨(some 85), .pick (.t 82) (.t 84) (.k (.bool false)), none, 1115392, 5, []⟩,
   ⟨(some 86), .mv (.t 85), none, 1115648, 6, []⟩,
   ⟨(some 87), .mv (.t 11), (some (some 86, true)), 1115904, 7, []⟩,
   ⟨(some 88), .bin .eql (.t 87) (.k (.int .i64 0)), (some (some 86, true)), 1116160, 8, []⟩,
   ⟨(some 89), .pick (.t 86) (.t 88) (.k (.bool false)), none, 1116416, 9, []⟩,
   ⟨(some 90), .mv (.t 89), none, 1116672, 10, []⟩,
   ⟨(some 91), .mv (.t 13), (some (some 90, true)), 1116928, 11, []⟩,
   ⟨(some 92), .bin .eql (.t 91) (.k (.int .i64 0)), (some (some 90, true)), 1117184, 12, []⟩,
   ⟨(some 93), .pick (.t 90) (.t 92) (.k (.bool false)), none, 1117440, 13, []⟩,
   ⟨(some 94), .mv (.t 93), none, 1117696, 14, []⟩,
   ⟨(some 95), .mv (.t 15), (some (some 94, true)), 1117952, 15, []⟩,
   ⟨(some 96), .bin .eql (.t 95) (.k (.int .i64 0)), (some (some 94, true)), 1118208, 16, []⟩,
   ⟨(some 97), .pick (.t 94) (.t 96) (.k (.bool false)), none, 1118464, 17, []⟩,
   ⟨(some 98), .mv (.t 97), none, 1118720, 18, []⟩,
   ⟨(some 99), .mv (.t 19), (some (some 98, true)), 1118976, 19, []⟩,
   ⟨(some 100), .bin .eql (.t 99) (.k (.int .i64 0)), (some (some 98, true)), 1119232, 20, []⟩,
   ⟨(some 101), .pick (.t 98) (.t 100) (.k (.bool false)), none, 1119488, 21, []⟩,
   ⟨(some 102), .mv (.t 101), none, 1119744, 22, []⟩,
   ⟨(some 103), .load 3 true (.t 12), (some (some 102, true)), 1120000, 23, []⟩,
   ⟨(some 104), .load 3 true (.t 14), (some (some 102, true)), 1120256, 24, []⟩,
   ⟨(some 105), .call 23 [(.t 103), (.t 104)] true, (some (some 102, true)), 1120512, 25, []⟩,
   ⟨(some 106), .pick (.t 102) (.t 105) (.k (.bool false)), none, 1120768, 26, []⟩,
   ⟨(some 107), .mv (.t 106), none, 1121024, 27, []⟩,
   ⟨(some 108), .load 3 true (.t 18), (some (some 107, true)), 1121280, 28, []⟩,
   ⟨(some 109), .load 3 true (.t 14), (some (some 107, true)), 1121536, 29, []⟩,
   ⟨(some 110), .call 23 [(.t 108), (.t 109)] true, (some (some 107, true)), 1121792, 30, []⟩,
   ⟨(some 111), .pick (.t 107) (.t 110) (.k (.bool false)), none, 1122048, 31, []⟩,
   ⟨(some 112), .mv (.t 111), none, 1122304, 32, []⟩,
   ⟨(some 113), .faddr 2 (.t 5), (some (some 112, true)), 1122560, 33, []⟩,
   ⟨(some 114), .load 1 false (.t 113), (some (some 112, true)), 1122816, 34, []⟩,
   ⟨(some 115), .len false (.t 114), (some (some 112, true)), 1123072, 35, []⟩,
   ⟨(some 116), .mv (.t 3), (some (some 112, true)), 1123328, 36, []⟩,
   ⟨(some 117), .mv (.t 4), (some (some 112, true)), 1123584, 37, []⟩,
   ⟨(some 118), .bin .add (.t 116) (.t 117), (some (some 112, true)), 1123840, 38, []⟩,
   ⟨(some 119), .mv (.t 3), (some (some 112, true)), 1124096, 39, []⟩,
   ⟨(some 120), .bin .mul (.t 118) (.t 119), (some (some 112, true)), 1124352, 40, []⟩,
   ⟨(some 121), .bin .eql (.t 115) (.t 120), (some (some 112, true)), 1124608, 41, []⟩,
   ⟨(some 122), .pick (.t 112) (.t 121) (.k (.bool false)), none, 1124864, 42, []⟩,
   ⟨(some 2), .mv (.t 122), none, 1125120, 43, []⟩])
 (.ret))))))))))))))⟩
/-- loop.example/g00849/laws.FnCopies -/
def F6 : F := ⟨1, 49, [.t 2],
 .seq (.reg [⟨(some 2), .mv (.k (.bool false)), none, 0, 0, []⟩])
 (.seq (.seq (.reg [⟨(some 8), .mv (.t 0), none, 65536, 0, []⟩,
   ⟨(some 9), .len false (.t 8), none, 65792, 1, []⟩,
   ⟨(some 10), .bin .gtr (.t 9) (.k (.int .i64 1048576)), none, 66048, 2, []⟩])
 (.cond (.t 10)
  (.seq (.reg [⟨(some 2), .mv (.k (.bool true)), none, 131072, 0, []⟩])
  (.ret))
  (.skip)))
 (.seq (.reg [⟨(some 11), .mv (.t 0), none, 196608, 0, []⟩,
   ⟨(some 12), .call 18 [(.t 11), (.k (.int .i64 0)), (.k (.int .i64 4))] true, none, 196864, 1, []⟩,
   ⟨(some 13), .build [(.int .i64 0), (.int .i64 0)] [(0, 1, (.k (.int .i64 1))), (1, 1, (.t 12))], none, 197120, 2, []⟩,
   ⟨(some 3), .alloc [(.int .i64 0), (.int .i64 0)], none, 197376, 3, []⟩,
   ⟨none, .store 2 (.t 3) (.t 13), none, 197632, 4, []⟩])
 (.seq (.reg [⟨(some 14), .mv (.t 0), none, 262144, 0, []⟩,
   ⟨(some 15), .call 24 [(.t 14)] true, none, 262400, 1, []⟩,
   ⟨(some 4), .mv (.t 15), none, 262656, 2, []⟩])
 (.seq (.reg [⟨(some 17), .load 2 true (.t 3), none, 327680, 0, []⟩,
   ⟨(some 18), .mv (.t 4), none, 327936, 1, []⟩,
   ⟨(some 19), .call 25 [(.t 17), (.t 18)] false, none, 328192, 2, []⟩,
   ⟨(some 16), .mv (.t 19), none, 328448, 3, []⟩,
   ⟨(some 20), .ext (.t 16) 0, none, 328704, 4, []⟩,
   ⟨(some 21), .ext (.t 16) 1, none, 328960, 5, []⟩,
   ⟨(some 5), .mv (.t 20), none, 329216, 6, []⟩,
   ⟨(some 6), .mv (.t 21), none, 329472, 7, []⟩])
 (.seq (.seq (.reg [⟨(some 22), .mv (.t 6), none, 393216, 0, []⟩,
   ⟨(some 23), .not (.t 22), none, 393472, 1, []⟩,
   ⟨(some 24), .mv (.t 23), none, 393728, 2, []⟩,
   ⟨(some 25), .mv (.t 5), (some (some 24, false)), 393984, 3, []⟩,
   ⟨(some 26), .len false (.t 25), (some (some 24, false)), 394240, 4, []⟩,
   ⟨(some 27), .faddr 1 (.t 3), (some (some 24, false)), 394496, 5, []⟩,
   ⟨(some 28), .load 1 false (.t 27), (some (some 24, false)), 394752, 6, []⟩,
   ⟨(some 29), .bin .add (.k (.int .i64 1)) (.t 28), (some (some 24, false)), 395008, 7, []⟩,
   ⟨(some 30), .bin .neq (.t 26) (.t 29), (some (some 24, false)), 395264, 8, []⟩,
   ⟨(some 31), .pick (.t 24) (.k (.bool true)) (.t 30), none, 395520, 9, []⟩,
   ⟨(some 32), .mv (.t 31), none, 395776, 10, []⟩,
   ⟨(some 33), .load 2 true (.t 3), (some (some 32, false)), 396032, 11, []⟩,
   ⟨(some 34), .call 26 [(.t 33)] true, (some (some 32, false)), 396288, 12, []⟩,
   ⟨(some 35), .not (.t 34), (some (some 32, false)), 396544, 13, []⟩,
   ⟨(some 36), .pick (.t 32) (.k (.bool true)) (.t 35), none, 396800, 14, []⟩])
 (.cond (.t 36)
  (.seq (.reg [⟨(some 2), .mv (.k (.bool false)), none, 458752, 0, []⟩])
  (.ret))
  (.skip)))
 (.seq (.seq (.reg [⟨(some 7), .mv (.k (.int .i64 0)), none, 524288, 0, []⟩])
 (.block 0 (.loop [4, 5, 7] [197376, 197633, 197634, 328192, 328193, 328194, 328195]
  (.seq (.seq (.reg [⟨(some 37), .mv (.t 7), none, 589824, 0, []⟩,
    ⟨(some 38), .mv (.t 5), none, 590080, 1, []⟩,
    ⟨(some 39), .len false (.t 38), none, 590336, 2, []⟩,
    ⟨(some 40), .bin .lss (.t 37) (.t 39), none, 590592, 3, []⟩])
  (.cond (.t 40)
   (.skip)
   (.exit 0)))
  (.seq (.block 1 (.seq (.reg [⟨(some 43), .mv (.t 5), none, 720896, 0, []⟩,
    ⟨(some 44), .mv (.t 7), none, 721152, 1, []⟩,
    ⟨(some 45), .iaddr 1 (.t 43) (.t 44), none, 721408, 2, []⟩,
    ⟨(some 46), .load 1 false (.t 45), none, 721664, 3, []⟩,
    ⟨(some 47), .mv (.t 4), none, 721920, 4, []⟩,
    ⟨(some 48), .bin .neq (.t 46) (.t 47), none, 722176, 5, []⟩])
  (.cond (.t 48)
   (.seq (.reg [⟨(some 2), .mv (.k (.bool false)), none, 786432, 0, []⟩])
   (.ret))
   (.skip))))
  (.reg [⟨(some 41), .mv (.t 7), none, 655360, 0, []⟩,
    ⟨(some 42), .bin .add (.t 41) (.k (.int .i64 1)), none, 655616, 1, []⟩,
    ⟨(some 7), .mv (.t 42), none, 655872, 2, []⟩]))))))
 (.seq (.reg [⟨(some 2), .mv (.k (.bool true)), none, 851968, 0, []⟩])
 (.ret))))))))⟩
/-- loop.example/g00849/laws.FnInverse -/
def F7 : F := ⟨1, 78, [.t 2],
 .seq (.reg [⟨(some 2), .mv (.k (.bool false)), none, 0, 0, []⟩])
 (.seq (.seq (.reg [⟨(some 14), .mv (.t 0), none, 65536, 0, []⟩,
   ⟨(some 15), .len false (.t 14), none, 65792, 1, []⟩,
   ⟨(some 16), .bin .gtr (.t 15) (.k (.int .i64 1048576)), none, 66048, 2, []⟩])
 (.cond (.t 16)
  (.seq (.reg [⟨(some 2), .mv (.k (.bool true)), none, 131072, 0, []⟩])
  (.ret))
  (.skip)))
 (.seq (.reg [⟨(some 17), .mv (.t 0), none, 196608, 0, []⟩,
   ⟨(some 18), .call 27 [(.t 17)] false, none, 196864, 1, []⟩,
   ⟨(some 3), .alloc [(.int .i64 0), (.int .i64 0), (.nil true 1)], none, 197120, 2, []⟩,
   ⟨none, .store 3 (.t 3) (.t 18), none, 197376, 3, []⟩])
 (.seq (.reg [⟨(some 20), .load 3 true (.t 3), none, 262144, 0, []⟩,
   ⟨(some 21), .call 21 [(.t 20)] false, none, 262400, 1, []⟩,
   ⟨(some 19), .mv (.t 21), none, 262656, 2, []⟩,
   ⟨(some 22), .ext (.t 19) 0, none, 262912, 3, []⟩,
   ⟨(some 23), .ext (.t 19) 1, none, 263168, 4, []⟩,
   ⟨(some 4), .alloc [(.int .i64 0), (.int .i64 0), (.nil true 1)], none, 263424, 5, []⟩,
   ⟨none, .store 3 (.t 4) (.t 22), none, 263680, 6, []⟩,
   ⟨(some 5), .mv (.t 23), none, 263936, 7, []⟩])
 (.seq (.reg [⟨(some 25), .load 3 true (.t 3), none, 327680, 0, []⟩,
   ⟨(some 26), .call 28 [(.t 25)] false, none, 327936, 1, []⟩,
   ⟨(some 24), .mv (.t 26), none, 328192, 2, []⟩,
   ⟨(some 27), .ext (.t 24) 0, none, 328448, 3, []⟩,
   ⟨(some 28), .ext (.t 24) 1, none, 328704, 4, []⟩,
   ⟨(some 6), .alloc [(.int .i64 0), (.int .i64 0), (.nil true 1)], none, 328960, 5, []⟩,
   ⟨none, .store 3 (.t 6) (.t 27), none, 329216, 6, []⟩,
   ⟨(some 7), .mv (.t 28), none, 329472, 7, []⟩])
 (.seq (.seq (.reg [⟨(some 29), .mv (.t 5), none, 393216, 0, []⟩,
   ⟨(some 30), .mv (.t 7), none, 393472, 1, []⟩,
   ⟨(some 31), .bin .neq (.t 29) (.t 30), none, 393728, 2, []⟩])
 (.cond (.t 31)
  (.seq (.reg [⟨(some 2), .mv (.k (.bool false)), none, 458752, 0, []⟩])
  (.ret))
  (.skip)))
 (.seq (.reg [⟨(some 33), .faddr 0 (.t 3), none, 524288, 0, []⟩,
   ⟨(some 34), .load 1 false (.t 33), none, 524544, 1, []⟩,
   ⟨(some 35), .call 22 [(.t 34)] false, none, 524800, 2, []⟩,
   ⟨(some 32), .mv (.t 35), none, 525056, 3, []⟩,
   ⟨(some 36), .ext (.t 32) 0, none, 525312, 4, []⟩,
   ⟨(some 37), .ext (.t 32) 1, none, 525568, 5, []⟩,
   ⟨(some 8), .alloc [(.int .i64 0), (.int .i64 0), (.nil true 1)], none, 525824, 6, []⟩,
   ⟨none, .store 3 (.t 8) (.t 36), none, 526080, 7, []⟩,
   ⟨(some 9), .mv (.t 37), none, 526336, 8, []⟩])
 (.seq (.seq (.reg [⟨(some 38), .mv (.t 7), none, 589824, 0, []⟩,
   ⟨(some 39), .bin .neq (.t 38) (.k (.int .i64 0)), none, 590080, 1, []⟩])
 (.cond (.t 39)
  (.seq (.reg [⟨(some 40), .mv (.t 7), none, 655360, 0, []⟩,
    ⟨(some 41), .bin .eql (.t 40) (.k (.int .i64 3)), none, 655616, 1, []⟩,
    ⟨(some 42), .mv (.t 41), none, 655872, 2, []⟩,
    ⟨(some 43), .mv (.t 9), (some (some 42, true)), 656128, 3, []⟩,
    ⟨(some 44), .bin .eql (.t 43) (.k (.int .i64 0)), (some (some 42, true)), 656384, 4, []⟩,
    ⟨(some 45), .pick (.t 42) (.t 44) (.k (.bool false)), none, 656640, 5, []⟩,
    ⟨(some 2), .mv (.t 45), none, 656896, 6, []⟩])
  (.ret))
  (.skip)))
 (.seq (.reg [⟨(some 47), .load 3 true (.t 3), none, 720896, 0, []⟩,
   ⟨(some 48), .load 3 true (.t 4), none, 721152, 1, []⟩,
   ⟨(some 49), .call 17 [(.t 47), (.t 48)] false, none, 721408, 2, []⟩,
   ⟨(some 46), .mv (.t 49), none, 721664, 3, []⟩,
   ⟨(some 50), .ext (.t 46) 0, none, 721920, 4, []⟩,
   ⟨(some 51), .ext (.t 46) 1, none, 722176, 5, []⟩,
   ⟨(some 10), .alloc [(.int .i64 0), (.int .i64 0), (.nil true 1)], none, 722432, 6, []⟩,
   ⟨none, .store 3 (.t 10) (.t 50), none, 722688, 7, []⟩,
   ⟨(some 11), .mv (.t 51), none, 722944, 8, []⟩])
 (.seq (.reg [⟨(some 53), .load 3 true (.t 4), none, 786432, 0, []⟩,
   ⟨(some 54), .load 3 true (.t 3), none, 786688, 1, []⟩,
   ⟨(some 55), .call 17 [(.t 53), (.t 54)] false, none, 786944, 2, []⟩,
   ⟨(some 52), .mv (.t 55), none, 787200, 3, []⟩,
   ⟨(some 56), .ext (.t 52) 0, none, 787456, 4, []⟩,
   ⟨(some 57), .ext (.t 52) 1, none, 787712, 5, []⟩,
   ⟨(some 12), .alloc [(.int .i64 0), (.int .i64 0), (.nil true 1)], none, 787968, 6, []⟩,
   ⟨none, .store 3 (.t 12) (.t 56), none, 788224, 7, []⟩,
   ⟨(some 13), .mv (.t 57), none, 788480, 8, []⟩])
 (.seq (.reg [⟨(some 58), .mv (.t 9), none, 851968, 0, []⟩,
   ⟨(some 59), .bin .eql (.t 58) (.k (.int .i64 0)), none, 852224, 1, []⟩,
   ⟨(some 60), .mv (.t 59), none, 852480, 2, []⟩,
   ⟨(some 61), .mv (.t 11), (some (some 60, true)), 852736, 3, []⟩,
   ⟨(some 62), .bin .eql (.t 61) (.k (.int .i64 0)), (some (some 60, true)), 852992, 4, []⟩,
   ⟨(some 63), .pick (.t 60) (.t 62) (.k (.bool false)), none, 853248, 5, []⟩,
   ⟨(some 64), .mv (.t 63), none, 853504, 6, []⟩,
   ⟨(some 65), .mv (.t 13), (some (some 64, true)), 853760, 7, []⟩,
   ⟨(some 66), .bin .eql (.t 65) (.k (.int .i64 0)), (some (some 64, true)), 854016, 8, []⟩,
   ⟨(some 67), .pick (.t 64) (.t 66) (.k (.bool false)), none, 854272, 9, []⟩,
   ⟨(some 68), .mv (.t 67), none, 854528, 10, []⟩,
   ⟨(some 69), .load 3 true (.t 10), (some (some 68, true)), 854784, 11, []⟩,
   ⟨(some 70), .load 3 true (.t 8), (some (some 68, true)), 855040, 12, []⟩,
   ⟨(some 71), .call 23 [(.t 69), (.t 70)] true, (some (some 68, true)), 855296, 13, []⟩,
   ⟨(some 72), .pick (.t 68) (.t 71) (.k (.bool false)), none, 855552, 14, []⟩,
   ⟨(some 73), .mv (.t 72), none, 855808, 15, []⟩,
   ⟨(some 74), .load 3 true (.t 12), (some (some 73, true)), 856064, 16, []⟩,
   ⟨(some 75), .load 3 true (.t 8), (some (some 73, true)), 856320, 17, []⟩,
   ⟨(some 76), .call 23 [(.t 74), (.t 75)] true, (some (some 73, true)), 856576, 18, []⟩,
   ⟨(some 77), .pick (.t 73) (.t 76) (.k (.bool false)), none, 856832, 19, []⟩,
   ⟨(some 2), .mv (.t 77), none, 857088, 20, []⟩])
 (.ret)))))))))))⟩
/-- loop.example/g00849/laws.FnExactMatInv -/
def F8 : F := ⟨1, 96, [.t 2],
 .seq (.reg [⟨(some 1), .box (.t 0), none, 0, 0, []⟩,
   ⟨(some 2), .mv (.k (.bool false)), none, 256, 1, []⟩])
 (.seq (.reg [⟨(some 3), .mv (.k (.int .i64 1048576)), none, 65536, 0, []⟩])
 (.seq (.reg [⟨(some 14), .load 3 true (.t 1), none, 131072, 0, []⟩,
   ⟨(some 15), .mv (.t 3), none, 131328, 1, []⟩,
   ⟨(some 16), .call 14 [(.t 14), (.t 15)] true, none, 131584, 2, []⟩,
   ⟨(some 3), .mv (.t 16), none, 131840, 3, []⟩])
 (.seq (.seq (.reg [⟨(some 17), .mv (.t 3), none, 196608, 0, []⟩,
   ⟨(some 18), .bin .lss (.t 17) (.k (.int .i64 0)), none, 196864, 1, []⟩])
 (.cond (.t 18)
  (.seq (.reg [⟨(some 2), .mv (.k (.bool true)), none, 262144, 0, []⟩])
  (.ret))
  (.skip)))
 (.seq (.reg [⟨(some 20), .load 3 true (.t 1), none, 327680, 0, []⟩,
   ⟨(some 21), .call 16 [(.t 20)] false, none, 327936, 1, []⟩,
   ⟨(some 22), .call 28 [(.t 21)] false, none, 328192, 2, []⟩,
   ⟨(some 19), .mv (.t 22), none, 328448, 3, []⟩,
   ⟨(some 23), .ext (.t 19) 0, none, 328704, 4, []⟩,
   ⟨(some 24), .ext (.t 19) 1, none, 328960, 5, []⟩,
   ⟨(some 4), .alloc [(.int .i64 0), (.int .i64 0), (.nil true 1)], none, 329216, 6, []⟩,
   ⟨none, .store 3 (.t 4) (.t 23), none, 329472, 7, []⟩,
   ⟨(some 5), .mv (.t 24), none, 329728, 8, []⟩])
 (.seq (.reg [⟨(some 25), .load 3 true (.t 1), none, 393216, 0, []⟩,
   ⟨(some 26), .call 16 [(.t 25)] false, none, 393472, 1, []⟩,
   ⟨(some 6), .alloc [(.int .i64 0), (.int .i64 0), (.nil true 1)], none, 393728, 2, []⟩,
   ⟨none, .store 3 (.t 6) (.t 26), none, 393984, 3, []⟩])
 (.seq (.reg [⟨(some 28), .load 3 true (.t 6), none, 458752, 0, []⟩,
   ⟨(some 29), .call 21 [(.t 28)] false, none, 459008, 1, []⟩,
   ⟨(some 27), .mv (.t 29), none, 459264, 2, []⟩,
   ⟨(some 30), .ext (.t 27) 0, none, 459520, 3, []⟩,
   ⟨(some 31), .ext (.t 27) 1, none, 459776, 4, []⟩,
   ⟨(some 7), .alloc [(.int .i64 0), (.int .i64 0), (.nil true 1)], none, 460032, 5, []⟩,
   ⟨none, .store 3 (.t 7) (.t 30), none, 460288, 6, []⟩,
   ⟨(some 8), .mv (.t 31), none, 460544, 7, []⟩])
 (.seq (.seq (.reg [⟨(some 32), .load 3 true (.t 7), none, 524288, 0, []⟩,
   ⟨(some 33), .load 3 true (.t 4), none, 524544, 1, []⟩,
   ⟨(some 34), .call 11 [(.t 32), (.t 33)] true, none, 524800, 2, []⟩,
   ⟨(some 35), .not (.t 34), none, 525056, 3, []⟩,
   ⟨(some 36), .mv (.t 35), none, 525312, 4, []⟩,
   ⟨(some 37), .mv (.t 8), (some (some 36, false)), 525568, 5, []⟩,
   ⟨(some 38), .mv (.t 5), (some (some 36, false)), 525824, 6, []⟩,
   ⟨(some 39), .bin .neq (.t 37) (.t 38), (some (some 36, false)), 526080, 7, []⟩,
   ⟨(some 40), .pick (.t 36) (.k (.bool true)) (.t 39), none, 526336, 8, []⟩])
 (.cond (.t 40)
  (.seq (.reg [⟨(some 2), .mv (.k (.bool false)), none, 589824, 0, []⟩])
  (.ret))
  (.skip)))
 (.seq (.seq (.reg [⟨(some 41), .load 3 true (.t 6), none, 655360, 0, []⟩,
   ⟨(some 42), .load 3 true (.t 1), none, 655616, 1, []⟩,
   ⟨(some 43), .call 16 [(.t 42)] false, none, 655872, 2, []⟩,
   ⟨(some 44), .call 11 [(.t 41), (.t 43)] true, none, 656128, 3, []⟩,
   ⟨(some 45), .not (.t 44), none, 656384, 4, []⟩])
 (.cond (.t 45)
  (.seq (.reg [⟨(some 2), .mv (.k (.bool false)), none, 720896, 0, []⟩])
  (.ret))
  (.skip)))
 (.seq (.reg [⟨(some 9), .mv (.k (.int .i64 1)), none, 786432, 0, []⟩])
 (.seq (.reg [⟨(some 46), .load 3 true (.t 6), none, 851968, 0, []⟩,
   ⟨(some 47), .mv (.t 9), none, 852224, 1, []⟩,
   ⟨(some 48), .call 12 [(.t 46), (.t 47)] true, none, 852480, 2, []⟩,
   ⟨(some 9), .mv (.t 48), none, 852736, 3, []⟩])
 (.seq (.seq (.reg [⟨(some 49), .mv (.t 9), none, 917504, 0, []⟩,
   ⟨(some 50), .bin .lss (.t 49) (.k (.int .i64 0)), none, 917760, 1, []⟩,
   ⟨(some 51), .mv (.t 50), none, 918016, 2, []⟩,
   ⟨(some 52), .load 3 true (.t 7), (some (some 51, false)), 918272, 3, []⟩,
   ⟨(some 53), .load 3 true (.t 4), (some (some 51, false)), 918528, 4, []⟩,
   ⟨(some 54), .call 11 [(.t 52), (.t 53)] true, (some (some 51, false)), 918784, 5, []⟩,
   ⟨(some 55), .not (.t 54), (some (some 51, false)), 919040, 6, []⟩,
   ⟨(some 56), .pick (.t 51) (.k (.bool true)) (.t 55), none, 919296, 7, []⟩,
   ⟨(some 57), .mv (.t 56), none, 919552, 8, []⟩,
   ⟨(some 58), .mv (.t 8), (some (some 57, false)), 919808, 9, []⟩,
   ⟨(some 59), .mv (.t 5), (some (some 57, false)), 920064, 10, []⟩,
   ⟨(some 60), .bin .neq (.t 58) (.t 59), (some (some 57, false)), 920320, 11, []⟩,
   ⟨(some 61), .pick (.t 57) (.k (.bool true)) (.t 60), none, 920576, 12, []⟩])
 (.cond (.t 61)
  (.seq (.reg [⟨(some 2), .mv (.k (.bool false)), none, 983040, 0, []⟩])
  (.ret))
  (.skip)))
 (.seq (.reg [⟨(some 10), .mv (.k (.int .i64 1)), none, 1048576, 0, []⟩])
 (.seq (.reg [⟨(some 62), .load 3 true (.t 7), none, 1114112, 0, []⟩,
   ⟨(some 63), .mv (.t 10), none, 1114368, 1, []⟩,
   ⟨(some 64), .call 12 [(.t 62), (.t 63)] true, none, 1114624, 2, []⟩,
   ⟨(some 10), .mv (.t 64), none, 1114880, 3, []⟩])
 (.seq (.reg [⟨(some 11), .mv (.k (.int .i64 1)), none, 1179648, 0, []⟩])
 (.seq (.reg [⟨(some 65), .load 3 true (.t 7), none, 1245184, 0, []⟩,
   ⟨(some 66), .mv (.t 11), none, 1245440, 1, []⟩,
   ⟨(some 67), .call 13 [(.t 65), (.t 66)] true, none, 1245696, 2, []⟩,
   ⟨(some 11), .mv (.t 67), none, 1245952, 3, []⟩])
 (.seq (.seq (.reg [⟨(some 68), .mv (.t 11), none, 1310720, 0, []⟩,
   ⟨(some 69), .bin .lss (.t 68) (.k (.int .i64 0)), none, 1310976, 1, []⟩])
 (.cond (.t 69)
  (.seq (.reg [⟨(some 2), .mv (.k (.bool false)), none, 1376256, 0, []⟩])
  (.ret))
  (.skip)))
 (.seq (.seq (.reg [⟨(some 70), .mv (.t 11), none, 1441792, 0, []⟩,
   ⟨(some 71), .mv (.t 10), none, 1442048, 1, []⟩,
   ⟨(some 72), .bin .neq (.t 70) (.t 71), none, 1442304, 2, []⟩])
 (.cond (.t 72)
  (.seq (.reg [⟨(some 2), .mv (.k (.bool false)), none, 1507328, 0, []⟩])
  (.ret))
  (.skip)))
 (.seq (.reg [⟨(some 74), .load 3 true (.t 1), none, 1572864, 0, []⟩,
   ⟨(some 75), .call 16 [(.t 74)] false, none, 1573120, 1, []⟩,
   ⟨(some 76), .call 21 [(.t 75)] false, none, 1573376, 2, []⟩,
   ⟨(some 73), .mv (.t 76), none, 1573632, 3, []⟩,
   ⟨(some 77), .ext (.t 73) 0, none, 1573888, 4, []⟩,
   ⟨(some 78), .ext (.t 73) 1, none, 1574144, 5, []⟩,
   ⟨(some 12), .alloc [(.int .i64 0), (.int .i64 0), (.nil true 1)], none, 1574400, 6, []⟩,
   ⟨none, .store 3 (.t 12) (.t 77), none, 1574656, 7, []⟩,
   ⟨(some 13), .mv (.t 78), none, 1574912, 8, []⟩])
 (.seq (.seq (.reg [⟨(some 79), .load 3 true (.t 12), none, 1638400, 0, []⟩,
   ⟨(some 80), .load 3 true (.t 4), none, 1638656, 1, []⟩,
   ⟨(some 81), .call 11 [(.t 79), (.t 80)] true, none, 1638912, 2, []⟩,
   ⟨(some 82), .not (.t 81), none, 1639168, 3, []⟩,
   ⟨(some 83), .mv (.t 82), none, 1639424, 4, []⟩,
   ⟨(some 84), .mv (.t 13), (some (some 83, false)), 1639680, 5, []⟩,
   ⟨(some 85), .mv (.t 5), (some (some 83, false)), 1639936, 6, []⟩,
   ⟨(some 86), .bin .neq (.t 84) (.t 85), (some (some 83, false)), 1640192, 7, []⟩,
   ⟨(some 87), .pick (.t 83) (.k (.bool true)) (.t 86), none, 1640448, 8, []⟩])
 (.cond (.t 87)
  (.seq (.reg [⟨(some 2), .mv (.k (.bool false)), none, 1703936, 0, []⟩])
  (.ret))
  (.skip)))
 (.seq (.reg [⟨(some 11), .mv (.k (.int .i64 1)), none, 1769472, 0, []⟩])
 (.seq (.reg [⟨(some 88), .load 3 true (.t 7), none, 1835008, 0, []⟩,
   ⟨(some 89), .mv (.t 11), none, 1835264, 1, []⟩,
   ⟨(some 90), .call 13 [(.t 88), (.t 89)] true, none, 1835520, 2, []⟩,
   ⟨(some 11), .mv (.t 90), none, 1835776, 3, []⟩])
 (.seq (.seq (.reg [⟨(some 91), .mv (.t 11), none, 1900544, 0, []⟩,
   ⟨(some 92), .bin .lss (.t 91) (.k (.int .i64 0)), none, 1900800, 1, []⟩])
 (.cond (.t 92)
  (.seq (.reg [⟨(some 2), .mv (.k (.bool false)), none, 1966080, 0, []⟩])
  (.ret))
  (.skip)))
 (.seq (.seq (.reg [⟨(some 93), .mv (.t 11), none, 2031616, 0, []⟩,
   ⟨(some 94), .mv (.t 10), none, 2031872, 1, []⟩,
   ⟨(some 95), .bin .neq (.t 93) (.t 94), none, 2032128, 2, []⟩])
 (.cond (.t 95)
  (.seq (.reg [⟨(some 2), .mv (.k (.bool false)), none, 2097152, 0, []⟩])
  (.ret))
  (.skip)))
 (.seq (.reg [⟨(some 2), .mv (.k (.bool true)), none, 2162688, 0, []⟩])
 (.ret)))))))))))))))))))))))))⟩
/-- loop.example/g00849/impl.CodeMatrix -/
def F10 : F := ⟨2, 20, [.cell 4 3 true, .t 5],
 .seq (.reg [⟨(some 4), .alloc [(.int .i64 0), (.int .i64 0), (.nil true 1)], none, 0, 0, []⟩,
   ⟨(some 5), .mv (.k (.int .i64 0)), none, 256, 1, []⟩])
 (.seq (.seq (.reg [⟨(some 6), .mv (.t 0), none, 65536, 0, []⟩,
   ⟨(some 7), .call 30 [(.t 6), (.k (.int .i64 1)), (.k (.int .i64 8))] true, none, 65792, 1, []⟩,
   ⟨(some 8), .not (.t 7), none, 66048, 2, []⟩,
   ⟨(some 9), .mv (.t 8), none, 66304, 3, []⟩,
   ⟨(some 10), .mv (.t 1), (some (some 9, false)), 66560, 4, []⟩,
   ⟨(some 11), .mv (.t 0), (some (some 9, false)), 66816, 5, []⟩,
   ⟨(some 12), .bin .sub (.k (.int .i64 8)) (.t 11), (some (some 9, false)), 67072, 6, []⟩,
   ⟨(some 13), .call 30 [(.t 10), (.k (.int .i64 0)), (.t 12)] true, (some (some 9, false)), 67328, 7, []⟩,
   ⟨(some 14), .not (.t 13), (some (some 9, false)), 67584, 8, []⟩,
   ⟨(some 15), .pick (.t 9) (.k (.bool true)) (.t 14), none, 67840, 9, []⟩])
 (.cond (.t 15)
  (.seq (.reg [⟨(some 16), .build [(.int .i64 0), (.int .i64 0), (.nil true 1)] [], none, 131072, 0, []⟩,
    ⟨none, .store 3 (.t 4) (.t 16), none, 131328, 1, []⟩,
    ⟨(some 5), .mv (.k (.int .i64 2)), none, 131584, 2, []⟩])
  (.ret))
  (.skip)))
 (.seq (.reg [⟨(some 17), .mv (.t 0), none, 196608, 0, []⟩,
   ⟨(some 18), .mv (.t 1), none, 196864, 1, []⟩,
   ⟨(some 19), .call 31 [(.t 17), (.t 18)] false, none, 197120, 2, []⟩,
   ⟨none, .store 3 (.t 4) (.t 19), none, 197376, 3, []⟩,
   ⟨(some 5), .mv (.k (.int .i64 0)), none, 197632, 4, []⟩])
 (.ret)))⟩
/-- loop.example/g00849/laws.eqMatrix -/
def F11 : F := ⟨2, 21, [.t 4],
 .seq (.reg [⟨(some 2), .box (.t 0), none, 0, 0, []⟩,
   ⟨(some 3), .box (.t 1), none, 256, 1, []⟩,
   ⟨(some 4), .mv (.k (.bool false)), none, 512, 2, []⟩])
 (.seq (.seq (.reg [⟨(some 5), .faddr 0 (.t 2), none, 65536, 0, []⟩,
   ⟨(some 6), .load 1 false (.t 5), none, 65792, 1, []⟩,
   ⟨(some 7), .faddr 0 (.t 3), none, 66048, 2, []⟩,
   ⟨(some 8), .load 1 false (.t 7), none, 66304, 3, []⟩,
   ⟨(some 9), .bin .neq (.t 6) (.t 8), none, 66560, 4, []⟩])
 (.cond (.t 9)
  (.seq (.reg [⟨(some 4), .mv (.k (.bool false)), none, 131072, 0, []⟩])
  (.ret))
  (.skip)))
 (.seq (.seq (.reg [⟨(some 10), .faddr 1 (.t 2), none, 196608, 0, []⟩,
   ⟨(some 11), .load 1 false (.t 10), none, 196864, 1, []⟩,
   ⟨(some 12), .faddr 1 (.t 3), none, 197120, 2, []⟩,
   ⟨(some 13), .load 1 false (.t 12), none, 197376, 3, []⟩,
   ⟨(some 14), .bin .neq (.t 11) (.t 13), none, 197632, 4, []⟩])
 (.cond (.t 14)
  (.seq (.reg [⟨(some 4), .mv (.k (.bool false)), none, 262144, 0, []⟩])
  (.ret))
  (.skip)))
 (.seq (.seq (.reg [⟨(some 15), .faddr 2 (.t 2), none, 327680, 0, []⟩,
   ⟨(some 16), .load 1 false (.t 15), none, 327936, 1, []⟩,
   ⟨(some 17), .faddr 2 (.t 3), none, 328192, 2, []⟩,
   ⟨(some 18), .load 1 false (.t 17), none, 328448, 3, []⟩,
   ⟨(some 19), .call 32 [(.t 16), (.t 18)] true, none, 328704, 4, []⟩,
   ⟨(some 20), .not (.t 19), none, 328960, 5, []⟩])
 (.cond (.t 20)
  (.seq (.reg [⟨(some 4), .mv (.k (.bool false)), none, 393216, 0, []⟩])
  (.ret))
  (.skip)))
 (.seq (.reg [⟨(some 4), .mv (.k (.bool true)), none, 458752, 0, []⟩])
 (.ret)))))⟩
/-- loop.example/g00849/laws.markMatrix -/
def F12 : F := ⟨2, 10, [.t 4],
 .seq (.reg [⟨(some 2), .box (.t 0), none, 0, 0, []⟩,
   ⟨(some 4), .mv (.k (.int .i64 0)), none, 256, 1, []⟩])
 (.seq (.reg [⟨(some 5), .faddr 2 (.t 2), none, 65536, 0, []⟩,
   ⟨(some 6), .load 1 false (.t 5), none, 65792, 1, []⟩,
   ⟨(some 7), .mv (.t 1), none, 66048, 2, []⟩,
   ⟨(some 8), .call 33 [(.t 6), (.t 7)] true, none, 66304, 3, []⟩,
   ⟨(some 1), .mv (.t 8), none, 66560, 4, []⟩])
 (.seq (.reg [⟨(some 9), .mv (.t 1), none, 131072, 0, []⟩,
   ⟨(some 4), .mv (.t 9), none, 131328, 1, []⟩])
 (.ret)))⟩
/-- loop.example/g00849/laws.heldMatrix -/
def F13 : F := ⟨2, 12, [.t 4],
 .seq (.reg [⟨(some 2), .box (.t 0), none, 0, 0, []⟩,
   ⟨(some 4), .mv (.k (.int .i64 0)), none, 256, 1, []⟩])
 (.seq (.reg [⟨(some 5), .faddr 2 (.t 2), none, 65536, 0, []⟩,
   ⟨(some 6), .load 1 false (.t 5), none, 65792, 1, []⟩,
   ⟨(some 7), .mv (.t 1), none, 66048, 2, []⟩,
   ⟨(some 8), .call 34 [(.t 6), (.t 7)] true, none, 66304, 3, []⟩,
   ⟨(some 1), .mv (.t 8), none, 66560, 4, []⟩])
 (.seq (.seq (.reg [⟨(some 9), .mv (.t 1), none, 131072, 0, []⟩,
   ⟨(some 10), .bin .lss (.t 9) (.k (.int .i64 0)), none, 131328, 1, []⟩])
 (.cond (.t 10)
  (.seq (.reg [⟨(some 4), .mv (.k (.int .i64 (-1))), none, 196608, 0, []⟩])
  (.ret))
  (.skip)))
 (.seq (.reg [⟨(some 11), .mv (.t 1), none, 262144, 0, []⟩,
   ⟨(some 4), .mv (.t 11), none, 262400, 1, []⟩])
 (.ret))))⟩
/-- loop.example/g00849/laws.szMatrix -/
def F14 : F := ⟨2, 12, [.t 4],
 .seq (.reg [⟨(some 2), .box (.t 0), none, 0, 0, []⟩,
   ⟨(some 4), .mv (.k (.int .i64 0)), none, 256, 1, []⟩])
 (.seq (.reg [⟨(some 5), .faddr 2 (.t 2), none, 65536, 0, []⟩,
   ⟨(some 6), .load 1 false (.t 5), none, 65792, 1, []⟩,
   ⟨(some 7), .mv (.t 1), none, 66048, 2, []⟩,
   ⟨(some 8), .call 35 [(.t 6), (.t 7)] true, none, 66304, 3, []⟩,
   ⟨(some 1), .mv (.t 8), none, 66560, 4, []⟩])
 (.seq (.seq (.reg [⟨(some 9), .mv (.t 1), none, 131072, 0, []⟩,
   ⟨(some 10), .bin .lss (.t 9) (.k (.int .i64 0)), none, 131328, 1, []⟩])
 (.cond (.t 10)
  (.seq (.reg [⟨(some 4), .mv (.k (.int .i64 (-1))), none, 196608, 0, []⟩])
  (.ret))
  (.skip)))
 (.seq (.reg [⟨(some 11), .mv (.t 1), none, 262144, 0, []⟩,
   ⟨(some 4), .mv (.t 11), none, 262400, 1, []⟩])
 (.ret))))⟩
/-- loop.example/g00849/laws.toMatrix -/
def F16 : F := ⟨1, 15, [.cell 2 3 true],
 .seq (.reg [⟨(some 1), .box (.t 0), none, 0, 0, []⟩,
   ⟨(some 2), .alloc [(.int .i64 0), (.int .i64 0), (.nil true 1)], none, 256, 1, []⟩])
 (.seq (.reg [⟨(some 3), .alloc [(.int .i64 0), (.int .i64 0), (.nil true 1)], none, 65536, 0, []⟩])
 (.seq (.reg [⟨(some 4), .faddr 0 (.t 1), none, 131072, 0, []⟩,
   ⟨(some 5), .load 1 false (.t 4), none, 131328, 1, []⟩,
   ⟨(some 6), .faddr 0 (.t 3), none, 131584, 2, []⟩,
   ⟨none, .store 1 (.t 6) (.t 5), none, 131840, 3, []⟩])
 (.seq (.reg [⟨(some 7), .faddr 1 (.t 1), none, 196608, 0, []⟩,
   ⟨(some 8), .load 1 false (.t 7), none, 196864, 1, []⟩,
   ⟨(some 9), .faddr 1 (.t 3), none, 197120, 2, []⟩,
   ⟨none, .store 1 (.t 9) (.t 8), none, 197376, 3, []⟩])
 (.seq (.reg [⟨(some 10), .faddr 2 (.t 1), none, 262144, 0, []⟩,
   ⟨(some 11), .load 1 false (.t 10), none, 262400, 1, []⟩,
   ⟨(some 12), .call 38 [(.t 11)] false, none, 262656, 2, []⟩,
   ⟨(some 13), .faddr 2 (.t 3), none, 262912, 3, []⟩,
   ⟨none, .store 1 (.t 13) (.t 12), none, 263168, 4, []⟩])
 (.seq (.reg [⟨(some 14), .load 3 true (.t 3), none, 327680, 0, []⟩,
   ⟨none, .store 3 (.t 2) (.t 14), none, 327936, 1, []⟩])
 (.ret))))))⟩
/-- loop.example/g00849/impl.MatMul -/
def F17 : F := ⟨2, 73, [.cell 4 3 true, .t 5],
 .seq (.reg [⟨(some 2), .box (.t 0), none, 0, 0, []⟩,
   ⟨(some 3), .box (.t 1), none, 256, 1, []⟩,
   ⟨(some 4), .alloc [(.int .i64 0), (.int .i64 0), (.nil true 1)], none, 512, 2, []⟩,
   ⟨(some 5), .mv (.k (.int .i64 0)), none, 768, 3, []⟩])
 (.seq (.block 0 (.seq (.reg [⟨(some 13), .load 3 true (.t 2), none, 65536, 0, []⟩,
   ⟨(some 14), .call 39 [(.t 13)] true, none, 65792, 1, []⟩,
   ⟨(some 15), .not (.t 14), none, 66048, 2, []⟩,
   ⟨(some 16), .mv (.t 15), none, 66304, 3, []⟩,
   ⟨(some 17), .load 3 true (.t 3), (some (some 16, false)), 66560, 4, []⟩,
   ⟨(some 18), .call 39 [(.t 17)] true, (some (some 16, false)), 66816, 5, []⟩,
   ⟨(some 19), .not (.t 18), (some (some 16, false)), 67072, 6, []⟩,
   ⟨(some 20), .pick (.t 16) (.k (.bool true)) (.t 19), none, 67328, 7, []⟩,
   ⟨(some 12), .mv (.t 20), none, 67584, 8, []⟩])
 (.cond (.t 12)
  (.seq (.reg [⟨(some 21), .build [(.int .i64 0), (.int .i64 0), (.nil true 1)] [], none, 131072, 0, []⟩,
    ⟨none, .store 3 (.t 4) (.t 21), none, 131328, 1, []⟩,
    ⟨(some 5), .mv (.k (.int .i64 1)), none, 131584, 2, []⟩])
  (.ret))
  (.seq (.reg [⟨(some 23), .faddr 0 (.t 3), none, 196608, 0, []⟩,
    ⟨(some 24), .load 1 false (.t 23), none, 196864, 1, []⟩,
    ⟨(some 25), .faddr 1 (.t 2), none, 197120, 2, []⟩,
    ⟨(some 26), .load 1 false (.t 25), none, 197376, 3, []⟩,
    ⟨(some 27), .bin .neq (.t 24) (.t 26), none, 197632, 4, []⟩,
    ⟨(some 22), .mv (.t 27), none, 197888, 5, []⟩])
  (.cond (.t 22)
   (.seq (.reg [⟨(some 28), .build [(.int .i64 0), (.int .i64 0), (.nil true 1)] [], none, 262144, 0, []⟩,
     ⟨none, .store 3 (.t 4) (.t 28), none, 262400, 1, []⟩,
     ⟨(some 5), .mv (.k (.int .i64 2)), none, 262656, 2, []⟩])
   (.ret))
   (.skip))))))
 (.seq (.reg [⟨(some 29), .faddr 0 (.t 2), none, 327680, 0, []⟩,
   ⟨(some 30), .load 1 false (.t 29), none, 327936, 1, []⟩,
   ⟨(some 31), .faddr 1 (.t 3), none, 328192, 2, []⟩,
   ⟨(some 32), .load 1 false (.t 31), none, 328448, 3, []⟩,
   ⟨(some 33), .build [(.int .i64 0), (.int .i64 0), (.nil true 1)] [(0, 1, (.t 30)), (1, 1, (.t 32))], none, 328704, 4, []⟩,
   ⟨(some 6), .alloc [(.int .i64 0), (.int .i64 0), (.nil true 1)], none, 328960, 5, []⟩,
   ⟨none, .store 3 (.t 6) (.t 33), none, 329216, 6, []⟩])
 (.seq (.seq (.reg [⟨(some 34), .faddr 0 (.t 2), none, 393216, 0, []⟩,
   ⟨(some 35), .load 1 false (.t 34), none, 393472, 1, []⟩,
   ⟨(some 36), .mv (.k (.int .i64 0)), none, 393728, 2, []⟩])
 (.block 1 (.loop [2, 3, 4, 6, 35, 36] [0, 1, 2, 3, 4, 5, 256, 257, 258, 259, 260, 261, 512, 515, 131329, 131330, 131331, 262401, 262402, 262403, 328960, 328963, 329217, 329218, 329219, 1376513, 1376514, 1376515]
  (.seq (.reg [⟨(some 37), .bin .lss (.t 36) (.t 35), none, 458752, 0, []⟩])
  (.seq (.cond (.t 37)
   (.skip)
   (.exit 1))
  (.seq (.block 2 (.seq (.reg [⟨(some 38), .mv (.t 36), none, 524288, 0, []⟩,
    ⟨(some 7), .mv (.t 38), none, 524544, 1, []⟩])
  (.seq (.reg [⟨(some 39), .faddr 1 (.t 3), none, 589824, 0, []⟩,
    ⟨(some 40), .load 1 false (.t 39), none, 590080, 1, []⟩,
    ⟨(some 41), .mv (.k (.int .i64 0)), none, 590336, 2, []⟩])
  (.block 3 (.loop [2, 3, 4, 6, 7, 35, 36, 40, 41] [0, 1, 2, 3, 4, 5, 256, 257, 258, 259, 260, 261, 512, 515, 131329, 131330, 131331, 262401, 262402, 262403, 328960, 328963, 329217, 329218, 329219, 1376513, 1376514, 1376515]
   (.seq (.reg [⟨(some 42), .bin .lss (.t 41) (.t 40), none, 655360, 0, []⟩])
   (.seq (.cond (.t 42)
    (.skip)
    (.exit 3))
   (.seq (.block 4 (.seq (.reg [⟨(some 43), .mv (.t 41), none, 720896, 0, []⟩,
     ⟨(some 8), .mv (.t 43), none, 721152, 1, []⟩])
   (.seq (.reg [⟨(some 9), .mv (.k (.int .i64 0)), none, 786432, 0, []⟩])
   (.seq (.seq (.reg [⟨(some 44), .load 3 true (.t 2), none, 851968, 0, []⟩,
     ⟨(some 45), .mv (.t 7), none, 852224, 1, []⟩,
     ⟨(some 46), .call 40 [(.t 44), (.t 45)] false, none, 852480, 2, []⟩,
     ⟨(some 47), .len false (.t 46), none, 852736, 3, []⟩,
     ⟨(some 48), .mv (.k (.int .i64 0)), none, 852992, 4, []⟩])
   (.block 5 (.loop [2, 3, 4, 6, 7, 8, 9, 35, 36, 40, 41, 46, 47, 48] [0, 1, 2, 3, 4, 5, 256, 257, 258, 259, 260, 261, 512, 515, 131329, 131330, 131331, 262401, 262402, 262403, 328960, 328963, 329217, 329218, 329219, 852480, 852481, 852482, 852483, 1180416, 1180672, 1181185, 1376513, 1376514, 1376515]
    (.seq (.reg [⟨(some 49), .bin .lss (.t 48) (.t 47), none, 917504, 0, []⟩])
    (.seq (.cond (.t 49)
     (.skip)
     (.exit 5))
    (.seq (.block 6 (.seq (.reg [⟨(some 50), .mv (.t 48), none, 983040, 0, []⟩,
      ⟨(some 51), .iaddr 1 (.t 46) (.t 48), none, 983296, 1, []⟩,
      ⟨(some 52), .load 1 false (.t 51), none, 983552, 2, []⟩,
      ⟨(some 10), .mv (.t 50), none, 983808, 3, []⟩,
      ⟨(some 11), .mv (.t 52), none, 984064, 4, []⟩])
    (.reg [⟨(some 53), .mv (.t 9), none, 1048576, 0, []⟩,
      ⟨(some 54), .mv (.t 11), none, 1048832, 1, []⟩,
      ⟨(some 55), .load 3 true (.t 3), none, 1049088, 2, []⟩,
      ⟨(some 56), .mv (.t 10), none, 1049344, 3, []⟩,
      ⟨(some 57), .call 40 [(.t 55), (.t 56)] false, none, 1049600, 4, []⟩,
      ⟨(some 58), .mv (.t 8), none, 1049856, 5, []⟩,
      ⟨(some 59), .iaddr 1 (.t 57) (.t 58), none, 1050112, 6, []⟩,
      ⟨(some 60), .load 1 false (.t 59), none, 1050368, 7, []⟩,
      ⟨(some 61), .call 41 [(.t 54), (.t 60)] true, none, 1050624, 8, []⟩,
      ⟨(some 62), .bin .xor (.t 53) (.t 61), none, 1050880, 9, []⟩,
      ⟨(some 9), .mv (.t 62), none, 1051136, 10, []⟩])))
    (.reg [⟨(some 63), .bin .add (.t 48) (.k (.int .i64 1)), none, 1114112, 0, []⟩,
      ⟨(some 48), .mv (.t 63), none, 1114368, 1, []⟩])))))))
   (.reg [⟨(some 64), .faddr 2 (.t 6), none, 1179648, 0, []⟩,
     ⟨(some 65), .load 1 false (.t 64), none, 1179904, 1, []⟩,
     ⟨(some 66), .mv (.t 9), none, 1180160, 2, []⟩,
     ⟨(some 67), .bslice true 1 [(.int .i64 0)] 1 [(0, (.t 66))], none, 1180416, 3, []⟩,
     ⟨(some 68), .app true 1 8 (.t 65) (.t 67), none, 1180672, 4, []⟩,
     ⟨(some 69), .faddr 2 (.t 6), none, 1180928, 5, []⟩,
     ⟨none, .store 1 (.t 69) (.t 68), none, 1181184, 6, []⟩])))))
   (.reg [⟨(some 70), .bin .add (.t 41) (.k (.int .i64 1)), none, 1245184, 0, []⟩,
     ⟨(some 41), .mv (.t 70), none, 1245440, 1, []⟩])))))))))
  (.reg [⟨(some 71), .bin .add (.t 36) (.k (.int .i64 1)), none, 1310720, 0, []⟩,
    ⟨(some 36), .mv (.t 71), none, 1310976, 1, []⟩])))))))
 (.seq (.reg [⟨(some 72), .load 3 true (.t 6), none, 1376256, 0, []⟩,
   ⟨none, .store 3 (.t 4) (.t 72), none, 1376512, 1, []⟩,
   ⟨(some 5), .mv (.k (.int .i64 0)), none, 1376768, 2, []⟩])
 (.ret)))))⟩
/-- loop.example/g00849/laws.a8At -/
def F18 : F := ⟨3, 42, [.t 6],
 .seq (.reg [⟨(some 6), .mv (.k (.int .i64 0)), none, 0, 0, []⟩])
 (.seq (.seq (.reg [⟨(some 8), .mv (.t 2), none, 65536, 0, []⟩,
   ⟨(some 9), .bin .leq (.t 8) (.k (.int .i64 1)), none, 65792, 1, []⟩])
 (.cond (.t 9)
  (.seq (.reg [⟨(some 6), .mv (.k (.int .i64 0)), none, 131072, 0, []⟩])
  (.ret))
  (.skip)))
 (.seq (.seq (.reg [⟨(some 10), .mv (.t 0), none, 196608, 0, []⟩,
   ⟨(some 11), .len false (.t 10), none, 196864, 1, []⟩,
   ⟨(some 12), .bin .eql (.t 11) (.k (.int .i64 0)), none, 197120, 2, []⟩])
 (.cond (.t 12)
  (.seq (.reg [⟨(some 13), .mv (.t 1), none, 262144, 0, []⟩,
    ⟨(some 14), .bin .mul (.t 13) (.k (.int .i64 7)), none, 262400, 1, []⟩,
    ⟨(some 15), .mv (.t 2), none, 262656, 2, []⟩,
    ⟨(some 16), .bin .rem (.t 14) (.t 15), none, 262912, 3, []⟩,
    ⟨(some 6), .mv (.t 16), none, 263168, 4, []⟩])
  (.ret))
  (.skip)))
 (.seq (.reg [⟨(some 17), .mv (.t 0), none, 327680, 0, []⟩,
   ⟨(some 18), .len false (.t 17), none, 327936, 1, []⟩,
   ⟨(some 7), .mv (.t 18), none, 328192, 2, []⟩])
 (.seq (.reg [⟨(some 19), .mv (.t 0), none, 393216, 0, []⟩,
   ⟨(some 20), .mv (.t 1), none, 393472, 1, []⟩,
   ⟨(some 21), .mv (.t 7), none, 393728, 2, []⟩,
   ⟨(some 22), .bin .rem (.t 20) (.t 21), none, 393984, 3, []⟩,
   ⟨(some 23), .iaddr 1 (.t 19) (.t 22), none, 394240, 4, []⟩,
   ⟨(some 24), .load 1 false (.t 23), none, 394496, 5, []⟩,
   ⟨(some 25), .conv .i64 (.t 24), none, 394752, 6, []⟩,
   ⟨(some 26), .bin .mul (.t 25) (.k (.int .i64 31)), none, 395008, 7, []⟩,
   ⟨(some 27), .mv (.t 0), none, 395264, 8, []⟩,
   ⟨(some 28), .mv (.t 1), none, 395520, 9, []⟩,
   ⟨(some 29), .bin .add (.t 28) (.k (.int .i64 1)), none, 395776, 10, []⟩,
   ⟨(some 30), .mv (.t 7), none, 396032, 11, []⟩,
   ⟨(some 31), .bin .rem (.t 29) (.t 30), none, 396288, 12, []⟩,
   ⟨(some 32), .iaddr 1 (.t 27) (.t 31), none, 396544, 13, []⟩,
   ⟨(some 33), .load 1 false (.t 32), none, 396800, 14, []⟩,
   ⟨(some 34), .conv .i64 (.t 33), none, 397056, 15, []⟩,
   ⟨(some 35), .bin .add (.t 26) (.t 34), none, 397312, 16, []⟩,
   ⟨(some 36), .mv (.t 1), none, 397568, 17, []⟩,
   ⟨(some 37), .mv (.t 7), none, 397824, 18, []⟩,
   ⟨(some 38), .bin .quo (.t 36) (.t 37), none, 398080, 19, []⟩,
   ⟨(some 39), .bin .add (.t 35) (.t 38), none, 398336, 20, []⟩,
   ⟨(some 40), .mv (.t 2), none, 398592, 21, []⟩,
   ⟨(some 41), .bin .rem (.t 39) (.t 40), none, 398848, 22, []⟩,
   ⟨(some 6), .mv (.t 41), none, 399104, 23, []⟩])
 (.ret)))))⟩
/-- loop.example/g00849/laws.a8Places -/
def F19 : F := ⟨3, 44, [.t 6],
 .seq (.reg [⟨(some 6), .nil0 true 1, none, 0, 0, []⟩])
 (.seq (.reg [⟨(some 11), .bslice true 1 [(.int .i64 0)] 0 [], none, 65536, 0, []⟩,
   ⟨(some 7), .mv (.t 11), none, 65792, 1, []⟩])
 (.seq (.seq (.reg [⟨(some 8), .mv (.k (.int .i64 0)), none, 131072, 0, []⟩])
 (.block 0 (.loop [0, 1, 2, 7, 8] [0, 65536]
  (.seq (.seq (.reg [⟨(some 12), .mv (.t 8), none, 196608, 0, []⟩,
    ⟨(some 13), .mv (.t 2), none, 196864, 1, []⟩,
    ⟨(some 14), .bin .lss (.t 12) (.t 13), none, 197120, 2, []⟩])
  (.cond (.t 14)
   (.skip)
   (.exit 0)))
  (.seq (.block 1 (.seq (.reg [⟨(some 17), .mv (.t 2), none, 327680, 0, []⟩,
    ⟨(some 18), .mv (.t 8), none, 327936, 1, []⟩,
    ⟨(some 19), .bin .sub (.t 17) (.t 18), none, 328192, 2, []⟩,
    ⟨(some 9), .mv (.t 19), none, 328448, 3, []⟩])
  (.seq (.reg [⟨(some 20), .mv (.t 1), none, 393216, 0, []⟩,
    ⟨(some 21), .mv (.t 7), none, 393472, 1, []⟩,
    ⟨(some 22), .len false (.t 21), none, 393728, 2, []⟩,
    ⟨(some 23), .bin .sub (.t 20) (.t 22), none, 393984, 3, []⟩,
    ⟨(some 10), .mv (.t 23), none, 394240, 4, []⟩])
  (.seq (.reg [⟨(some 24), .mv (.t 10), none, 458752, 0, []⟩,
    ⟨(some 25), .bin .gtr (.t 24) (.k (.int .i64 0)), none, 459008, 1, []⟩,
    ⟨(some 26), .mv (.t 25), none, 459264, 2, []⟩,
    ⟨(some 27), .mv (.t 9), (some (some 26, true)), 459520, 3, []⟩,
    ⟨(some 28), .mv (.t 10), (some (some 26, true)), 459776, 4, []⟩,
    ⟨(some 29), .bin .eql (.t 27) (.t 28), (some (some 26, true)), 460032, 5, []⟩,
    ⟨(some 30), .mv (.t 29), (some (some 26, true)), 460288, 6, []⟩,
    ⟨(some 31), .mv (.t 0), (some (some 30, false)), 460544, 7, []⟩,
    ⟨(some 32), .mv (.t 8), (some (some 30, false)), 460800, 8, []⟩,
    ⟨(some 33), .mv (.t 9), (some (some 30, false)), 461056, 9, []⟩,
    ⟨(some 34), .call 18 [(.t 31), (.t 32), (.t 33)] true, (some (some 30, false)), 461312, 10, []⟩,
    ⟨(some 35), .mv (.t 10), (some (some 30, false)), 461568, 11, []⟩,
    ⟨(some 36), .bin .lss (.t 34) (.t 35), (some (some 30, false)), 461824, 12, []⟩,
    ⟨(some 37), .pick (.t 30) (.k (.bool true)) (.t 36), (some (some 26, true)), 462080, 13, []⟩,
    ⟨(some 38), .pick (.t 26) (.t 37) (.k (.bool false)), none, 462336, 14, []⟩])
  (.cond (.t 38)
   (.reg [⟨(some 39), .mv (.t 7), none, 524288, 0, []⟩,
     ⟨(some 40), .mv (.t 8), none, 524544, 1, []⟩,
     ⟨(some 41), .bslice true 1 [(.int .i64 0)] 1 [(0, (.t 40))], none, 524800, 2, []⟩,
     ⟨(some 42), .app true 1 8 (.t 39) (.t 41), none, 525056, 3, []⟩,
     ⟨(some 7), .mv (.t 42), none, 525312, 4, []⟩])
   (.skip))))))
  (.reg [⟨(some 15), .mv (.t 8), none, 262144, 0, []⟩,
    ⟨(some 16), .bin .add (.t 15) (.k (.int .i64 1)), none, 262400, 1, []⟩,
    ⟨(some 8), .mv (.t 16), none, 262656, 2, []⟩]))))))
 (.seq (.reg [⟨(some 43), .mv (.t 7), none, 589824, 0, []⟩,
   ⟨(some 6), .mv (.t 43), none, 590080, 1, []⟩])
 (.ret))))⟩
/-- loop.example/g00849/impl.MatRows -/
def F20 : F := ⟨2, 25, [.cell 4 3 true, .t 5],
 .seq (.reg [⟨(some 2), .box (.t 0), none, 0, 0, []⟩,
   ⟨(some 4), .alloc [(.int .i64 0), (.int .i64 0), (.nil true 1)], none, 256, 1, []⟩,
   ⟨(some 5), .mv (.k (.int .i64 0)), none, 512, 2, []⟩])
 (.seq (.block 0 (.seq (.reg [⟨(some 7), .load 3 true (.t 2), none, 65536, 0, []⟩,
   ⟨(some 8), .call 39 [(.t 7)] true, none, 65792, 1, []⟩,
   ⟨(some 9), .not (.t 8), none, 66048, 2, []⟩,
   ⟨(some 6), .mv (.t 9), none, 66304, 3, []⟩])
 (.cond (.t 6)
  (.seq (.reg [⟨(some 10), .build [(.int .i64 0), (.int .i64 0), (.nil true 1)] [], none, 131072, 0, []⟩,
    ⟨none, .store 3 (.t 4) (.t 10), none, 131328, 1, []⟩,
    ⟨(some 5), .mv (.k (.int .i64 1)), none, 131584, 2, []⟩])
  (.ret))
  (.seq (.reg [⟨(some 12), .mv (.t 1), none, 196608, 0, []⟩,
    ⟨(some 13), .len false (.t 12), none, 196864, 1, []⟩,
    ⟨(some 14), .call 30 [(.t 13), (.k (.int .i64 1)), (.k (.int .i64 8))] true, none, 197120, 2, []⟩,
    ⟨(some 15), .not (.t 14), none, 197376, 3, []⟩,
    ⟨(some 11), .mv (.t 15), none, 197632, 4, []⟩])
  (.cond (.t 11)
   (.seq (.reg [⟨(some 16), .build [(.int .i64 0), (.int .i64 0), (.nil true 1)] [], none, 262144, 0, []⟩,
     ⟨none, .store 3 (.t 4) (.t 16), none, 262400, 1, []⟩,
     ⟨(some 5), .mv (.k (.int .i64 4)), none, 262656, 2, []⟩])
   (.ret))
   (.seq (.reg [⟨(some 18), .mv (.t 1), none, 327680, 0, []⟩,
     ⟨(some 19), .mkf 43 [(.t 2)], none, 327936, 1, []⟩,
     ⟨(some 20), .call 42 [(.t 18), (.t 19)] true, none, 328192, 2, []⟩,
     ⟨(some 17), .mv (.t 20), none, 328448, 3, []⟩])
   (.cond (.t 17)
    (.seq (.reg [⟨(some 21), .build [(.int .i64 0), (.int .i64 0), (.nil true 1)] [], none, 393216, 0, []⟩,
      ⟨none, .store 3 (.t 4) (.t 21), none, 393472, 1, []⟩,
      ⟨(some 5), .mv (.k (.int .i64 2)), none, 393728, 2, []⟩])
    (.ret))
    (.skip))))))))
 (.seq (.reg [⟨(some 22), .load 3 true (.t 2), none, 458752, 0, []⟩,
   ⟨(some 23), .mv (.t 1), none, 459008, 1, []⟩,
   ⟨(some 24), .call 44 [(.t 22), (.t 23)] false, none, 459264, 2, []⟩,
   ⟨none, .store 3 (.t 4) (.t 24), none, 459520, 3, []⟩,
   ⟨(some 5), .mv (.k (.int .i64 0)), none, 459776, 4, []⟩])
 (.ret)))⟩
/-- loop.example/g00849/impl.MatInv -/
def F21 : F := ⟨1, 27, [.cell 2 3 true, .t 3],
 .seq (.reg [⟨(some 1), .box (.t 0), none, 0, 0, []⟩,
   ⟨(some 2), .alloc [(.int .i64 0), (.int .i64 0), (.nil true 1)], none, 256, 1, []⟩,
   ⟨(some 3), .mv (.k (.int .i64 0)), none, 512, 2, []⟩])
 (.seq (.block 0 (.seq (.reg [⟨(some 7), .load 3 true (.t 1), none, 65536, 0, []⟩,
   ⟨(some 8), .call 39 [(.t 7)] true, none, 65792, 1, []⟩,
   ⟨(some 9), .not (.t 8), none, 66048, 2, []⟩,
   ⟨(some 6), .mv (.t 9), none, 66304, 3, []⟩])
 (.cond (.t 6)
  (.seq (.reg [⟨(some 10), .build [(.int .i64 0), (.int .i64 0), (.nil true 1)] [], none, 131072, 0, []⟩,
    ⟨none, .store 3 (.t 2) (.t 10), none, 131328, 1, []⟩,
    ⟨(some 3), .mv (.k (.int .i64 1)), none, 131584, 2, []⟩])
  (.ret))
  (.seq (.reg [⟨(some 12), .faddr 0 (.t 1), none, 196608, 0, []⟩,
    ⟨(some 13), .load 1 false (.t 12), none, 196864, 1, []⟩,
    ⟨(some 14), .faddr 1 (.t 1), none, 197120, 2, []⟩,
    ⟨(some 15), .load 1 false (.t 14), none, 197376, 3, []⟩,
    ⟨(some 16), .bin .neq (.t 13) (.t 15), none, 197632, 4, []⟩,
    ⟨(some 11), .mv (.t 16), none, 197888, 5, []⟩])
  (.cond (.t 11)
   (.seq (.reg [⟨(some 17), .build [(.int .i64 0), (.int .i64 0), (.nil true 1)] [], none, 262144, 0, []⟩,
     ⟨none, .store 3 (.t 2) (.t 17), none, 262400, 1, []⟩,
     ⟨(some 3), .mv (.k (.int .i64 2)), none, 262656, 2, []⟩])
   (.ret))
   (.skip))))))
 (.seq (.reg [⟨(some 19), .load 3 true (.t 1), none, 327680, 0, []⟩,
   ⟨(some 20), .call 45 [(.t 19)] false, none, 327936, 1, []⟩,
   ⟨(some 18), .mv (.t 20), none, 328192, 2, []⟩,
   ⟨(some 21), .ext (.t 18) 0, none, 328448, 3, []⟩,
   ⟨(some 22), .ext (.t 18) 1, none, 328704, 4, []⟩,
   ⟨(some 4), .alloc [(.int .i64 0), (.int .i64 0), (.nil true 1)], none, 328960, 5, []⟩,
   ⟨none, .store 3 (.t 4) (.t 21), none, 329216, 6, []⟩,
   ⟨(some 5), .mv (.t 22), none, 329472, 7, []⟩])
 (.seq (.seq (.reg [⟨(some 23), .mv (.t 5), none, 393216, 0, []⟩,
   ⟨(some 24), .not (.t 23), none, 393472, 1, []⟩])
 (.cond (.t 24)
  (.seq (.reg [⟨(some 25), .build [(.int .i64 0), (.int .i64 0), (.nil true 1)] [], none, 458752, 0, []⟩,
    ⟨none, .store 3 (.t 2) (.t 25), none, 459008, 1, []⟩,
    ⟨(some 3), .mv (.k (.int .i64 3)), none, 459264, 2, []⟩])
  (.ret))
  (.skip)))
 (.seq (.reg [⟨(some 26), .load 3 true (.t 4), none, 524288, 0, []⟩,
   ⟨none, .store 3 (.t 2) (.t 26), none, 524544, 1, []⟩,
   ⟨(some 3), .mv (.k (.int .i64 0)), none, 524800, 2, []⟩])
 (.ret)))))⟩
/-- loop.example/g00849/impl.MatUnit -/
def F22 : F := ⟨1, 10, [.cell 2 3 true, .t 3],
 .seq (.reg [⟨(some 2), .alloc [(.int .i64 0), (.int .i64 0), (.nil true 1)], none, 0, 0, []⟩,
   ⟨(some 3), .mv (.k (.int .i64 0)), none, 256, 1, []⟩])
 (.seq (.seq (.reg [⟨(some 4), .mv (.t 0), none, 65536, 0, []⟩,
   ⟨(some 5), .call 30 [(.t 4), (.k (.int .i64 1)), (.k (.int .i64 8))] true, none, 65792, 1, []⟩,
   ⟨(some 6), .not (.t 5), none, 66048, 2, []⟩])
 (.cond (.t 6)
  (.seq (.reg [⟨(some 7), .build [(.int .i64 0), (.int .i64 0), (.nil true 1)] [], none, 131072, 0, []⟩,
    ⟨none, .store 3 (.t 2) (.t 7), none, 131328, 1, []⟩,
    ⟨(some 3), .mv (.k (.int .i64 2)), none, 131584, 2, []⟩])
  (.ret))
  (.skip)))
 (.seq (.reg [⟨(some 8), .mv (.t 0), none, 196608, 0, []⟩,
   ⟨(some 9), .call 46 [(.t 8)] false, none, 196864, 1, []⟩,
   ⟨none, .store 3 (.t 2) (.t 9), none, 197120, 2, []⟩,
   ⟨(some 3), .mv (.k (.int .i64 0)), none, 197376, 3, []⟩])
 (.ret)))⟩
/-- loop.example/g00849/impl.SameMatrix -/
def F23 : F := ⟨2, 32, [.t 4],
 .seq (.reg [⟨(some 2), .box (.t 0), none, 0, 0, []⟩,
   ⟨(some 3), .box (.t 1), none, 256, 1, []⟩,
   ⟨(some 4), .mv (.k (.bool false)), none, 512, 2, []⟩])
 (.seq (.reg [⟨(some 5), .load 3 true (.t 2), none, 65536, 0, []⟩,
   ⟨(some 6), .call 39 [(.t 5)] true, none, 65792, 1, []⟩,
   ⟨(some 7), .mv (.t 6), none, 66048, 2, []⟩,
   ⟨(some 8), .load 3 true (.t 3), (some (some 7, true)), 66304, 3, []⟩,
   ⟨(some 9), .call 39 [(.t 8)] true, (some (some 7, true)), 66560, 4, []⟩,
   ⟨(some 10), .pick (.t 7) (.t 9) (.k (.bool false)), none, 66816, 5, []⟩,
   ⟨(some 11), .mv (.t 10), none, 67072, 6, []⟩,
   ⟨(some 12), .faddr 0 (.t 2), (some (some 11, true)), 67328, 7, []⟩,
   ⟨(some 13), .load 1 false (.t 12), (some (some 11, true)), 67584, 8, []⟩,
   ⟨(some 14), .faddr 0 (.t 3), (some (some 11, true)), 67840, 9, []⟩,
   ⟨(some 15), .load 1 false (.t 14), (some (some 11, true)), 68096, 10, []⟩,
   ⟨(some 16), .bin .eql (.t 13) (.t 15), (some (some 11, true)), 68352, 11, []⟩,
   ⟨(some 17), .pick (.t 11) (.t 16) (.k (.bool false)), none, 68608, 12, []⟩,
   ⟨(some 18), .mv (.t 17), none, 68864, 13, []⟩,
   ⟨(some 19), .faddr 1 (.t 2), (some (some 18, true)), 69120, 14, []⟩,
   ⟨(some 20), .load 1 false (.t 19), (some (some 18, true)), 69376, 15, []⟩,
   ⟨(some 21), .faddr 1 (.t 3), (some (some 18, true)), 69632, 16, []⟩,
   ⟨(some 22), .load 1 false (.t 21), (some (some 18, true)), 69888, 17, []⟩,
   ⟨(some 23), .bin .eql (.t 20) (.t 22), (some (some 18, true)), 70144, 18, []⟩,
   ⟨(some 24), .pick (.t 18) (.t 23) (.k (.bool false)), none, 70400, 19, []⟩,
   ⟨(some 25), .mv (.t 24), none, 70656, 20, []⟩,
   ⟨(some 26), .faddr 2 (.t 2), (some (some 25, true)), 70912, 21, []⟩,
   ⟨(some 27), .load 1 false (.t 26), (some (some 25, true)), 71168, 22, []⟩,
   ⟨(some 28), .faddr 2 (.t 3), (some (some 25, true)), 71424, 23, []⟩,
   ⟨(some 29), .load 1 false (.t 28), (some (some 25, true)), 71680, 24, []⟩,
   ⟨(some 30), .call 47 [(.t 27), (.t 29)] true, (some (some 25, true)), 71936, 25, []⟩,
   ⟨(some 31), .pick (.t 25) (.t 30) (.k (.bool false)), none, 72192, 26, []⟩,
   ⟨(some 4), .mv (.t 31), none, 72448, 27, []⟩])
 (.ret))⟩
/-- loop.example/g00849/laws.a8Body -/
def F24 : F := ⟨1, 15, [.t 2],
 .seq (.reg [⟨(some 2), .mv (.k (.str ByteArray.empty)), none, 0, 0, []⟩])
 (.seq (.reg [⟨(some 4), .mv (.t 0), none, 65536, 0, []⟩,
   ⟨(some 5), .call 48 [(.t 4)] true, none, 65792, 1, []⟩,
   ⟨(some 6), .mv (.t 0), none, 66048, 2, []⟩,
   ⟨(some 7), .call 49 [(.k (.int .i64 7)), (.t 6)] false, none, 66304, 3, []⟩,
   ⟨(some 8), .call 48 [(.t 7)] true, none, 66560, 4, []⟩,
   ⟨(some 9), .bin .add (.t 5) (.t 8), none, 66816, 5, []⟩,
   ⟨(some 3), .mv (.t 9), none, 67072, 6, []⟩])
 (.seq (.reg [⟨(some 10), .mv (.t 3), none, 131072, 0, []⟩,
   ⟨(some 11), .mv (.t 3), none, 131328, 1, []⟩,
   ⟨(some 12), .len true (.t 11), none, 131584, 2, []⟩,
   ⟨(some 13), .min (.t 12) (.k (.int .i64 64)), none, 131840, 3, []⟩,
   ⟨(some 14), .scut (.t 10) none (some (.t 13)), none, 132096, 4, []⟩,
   ⟨(some 2), .mv (.t 14), none, 132352, 5, []⟩])
 (.ret)))⟩
/-- loop.example/g00849/impl.ShardsOf -/
def F25 : F := ⟨2, 17, [.t 4, .t 5],
 .seq (.reg [⟨(some 2), .box (.t 0), none, 0, 0, []⟩,
   ⟨(some 4), .nil0 true 1, none, 256, 1, []⟩,
   ⟨(some 5), .mv (.k (.bool false)), none, 512, 2, []⟩])
 (.seq (.seq (.reg [⟨(some 6), .load 2 true (.t 2), none, 65536, 0, []⟩,
   ⟨(some 7), .call 26 [(.t 6)] true, none, 65792, 1, []⟩,
   ⟨(some 8), .not (.t 7), none, 66048, 2, []⟩,
   ⟨(some 9), .mv (.t 8), none, 66304, 3, []⟩,
   ⟨(some 10), .mv (.t 1), (some (some 9, false)), 66560, 4, []⟩,
   ⟨(some 11), .len true (.t 10), (some (some 9, false)), 66816, 5, []⟩,
   ⟨(some 12), .bin .gtr (.t 11) (.k (.int .i64 64)), (some (some 9, false)), 67072, 6, []⟩,
   ⟨(some 13), .pick (.t 9) (.k (.bool true)) (.t 12), none, 67328, 7, []⟩])
 (.cond (.t 13)
  (.seq (.reg [⟨(some 4), .nil0 true 1, none, 131072, 0, []⟩,
    ⟨(some 5), .mv (.k (.bool false)), none, 131328, 1, []⟩])
  (.ret))
  (.skip)))
 (.seq (.reg [⟨(some 14), .load 2 true (.t 2), none, 196608, 0, []⟩,
   ⟨(some 15), .mv (.t 1), none, 196864, 1, []⟩,
   ⟨(some 16), .call 50 [(.t 14), (.t 15)] false, none, 197120, 2, []⟩,
   ⟨(some 4), .mv (.t 16), none, 197376, 3, []⟩,
   ⟨(some 5), .mv (.k (.bool true)), none, 197632, 4, []⟩])
 (.ret)))⟩
/-- loop.example/g00849/impl.CodeOk -/
def F26 : F := ⟨1, 11, [.t 2],
 .seq (.reg [⟨(some 1), .box (.t 0), none, 0, 0, []⟩,
   ⟨(some 2), .mv (.k (.bool false)), none, 256, 1, []⟩])
 (.seq (.reg [⟨(some 3), .faddr 0 (.t 1), none, 65536, 0, []⟩,
   ⟨(some 4), .load 1 false (.t 3), none, 65792, 1, []⟩,
   ⟨(some 5), .call 30 [(.t 4), (.k (.int .i64 1)), (.k (.int .i64 4))] true, none, 66048, 2, []⟩,
   ⟨(some 6), .mv (.t 5), none, 66304, 3, []⟩,
   ⟨(some 7), .faddr 1 (.t 1), (some (some 6, true)), 66560, 4, []⟩,
   ⟨(some 8), .load 1 false (.t 7), (some (some 6, true)), 66816, 5, []⟩,
   ⟨(some 9), .call 30 [(.t 8), (.k (.int .i64 0)), (.k (.int .i64 3))] true, (some (some 6, true)), 67072, 6, []⟩,
   ⟨(some 10), .pick (.t 6) (.t 9) (.k (.bool false)), none, 67328, 7, []⟩,
   ⟨(some 2), .mv (.t 10), none, 67584, 8, []⟩])
 (.ret))⟩
/-- loop.example/g00849/spec.A8Matrix -/
def F27 : F := ⟨1, 14, [.cell 2 3 true],
 .seq (.reg [⟨(some 2), .alloc [(.int .i64 0), (.int .i64 0), (.nil true 1)], none, 0, 0, []⟩])
 (.seq (.reg [⟨(some 5), .mv (.t 0), none, 65536, 0, []⟩,
   ⟨(some 6), .call 51 [(.t 5)] false, none, 65792, 1, []⟩,
   ⟨(some 3), .mv (.t 6), none, 66048, 2, []⟩])
 (.seq (.reg [⟨(some 7), .mv (.t 3), none, 131072, 0, []⟩,
   ⟨(some 8), .call 52 [(.t 7), (.k (.int .i64 5))] true, none, 131328, 1, []⟩,
   ⟨(some 9), .bin .add (.k (.int .i64 1)) (.t 8), none, 131584, 2, []⟩,
   ⟨(some 4), .mv (.t 9), none, 131840, 3, []⟩])
 (.seq (.reg [⟨(some 10), .mv (.t 3), none, 196608, 0, []⟩,
   ⟨(some 11), .mv (.t 4), none, 196864, 1, []⟩,
   ⟨(some 12), .mv (.t 4), none, 197120, 2, []⟩,
   ⟨(some 13), .call 53 [(.t 10), (.t 11), (.t 12)] false, none, 197376, 3, []⟩,
   ⟨none, .store 3 (.t 2) (.t 13), none, 197632, 4, []⟩])
 (.ret))))⟩
/-- loop.example/g00849/spec.MatInv -/
def F28 : F := ⟨1, 25, [.cell 2 3 true, .t 3],
 .seq (.reg [⟨(some 1), .box (.t 0), none, 0, 0, []⟩,
   ⟨(some 2), .alloc [(.int .i64 0), (.int .i64 0), (.nil true 1)], none, 256, 1, []⟩,
   ⟨(some 3), .mv (.k (.int .i64 0)), none, 512, 2, []⟩])
 (.seq (.seq (.reg [⟨(some 6), .load 3 true (.t 1), none, 65536, 0, []⟩,
   ⟨(some 7), .call 36 [(.t 6)] true, none, 65792, 1, []⟩,
   ⟨(some 8), .not (.t 7), none, 66048, 2, []⟩])
 (.cond (.t 8)
  (.seq (.reg [⟨(some 9), .build [(.int .i64 0), (.int .i64 0), (.nil true 1)] [], none, 131072, 0, []⟩,
    ⟨none, .store 3 (.t 2) (.t 9), none, 131328, 1, []⟩,
    ⟨(some 3), .mv (.k (.int .i64 1)), none, 131584, 2, []⟩])
  (.ret))
  (.skip)))
 (.seq (.seq (.reg [⟨(some 10), .faddr 0 (.t 1), none, 196608, 0, []⟩,
   ⟨(some 11), .load 1 false (.t 10), none, 196864, 1, []⟩,
   ⟨(some 12), .faddr 1 (.t 1), none, 197120, 2, []⟩,
   ⟨(some 13), .load 1 false (.t 12), none, 197376, 3, []⟩,
   ⟨(some 14), .bin .neq (.t 11) (.t 13), none, 197632, 4, []⟩])
 (.cond (.t 14)
  (.seq (.reg [⟨(some 15), .build [(.int .i64 0), (.int .i64 0), (.nil true 1)] [], none, 262144, 0, []⟩,
    ⟨none, .store 3 (.t 2) (.t 15), none, 262400, 1, []⟩,
    ⟨(some 3), .mv (.k (.int .i64 2)), none, 262656, 2, []⟩])
  (.ret))
  (.skip)))
 (.seq (.reg [⟨(some 17), .load 3 true (.t 1), none, 327680, 0, []⟩,
   ⟨(some 18), .call 54 [(.t 17)] false, none, 327936, 1, []⟩,
   ⟨(some 16), .mv (.t 18), none, 328192, 2, []⟩,
   ⟨(some 19), .ext (.t 16) 0, none, 328448, 3, []⟩,
   ⟨(some 20), .ext (.t 16) 1, none, 328704, 4, []⟩,
   ⟨(some 4), .alloc [(.int .i64 0), (.int .i64 0), (.nil true 1)], none, 328960, 5, []⟩,
   ⟨none, .store 3 (.t 4) (.t 19), none, 329216, 6, []⟩,
   ⟨(some 5), .mv (.t 20), none, 329472, 7, []⟩])
 (.seq (.seq (.reg [⟨(some 21), .mv (.t 5), none, 393216, 0, []⟩,
   ⟨(some 22), .not (.t 21), none, 393472, 1, []⟩])
 (.cond (.t 22)
  (.seq (.reg [⟨(some 23), .build [(.int .i64 0), (.int .i64 0), (.nil true 1)] [], none, 458752, 0, []⟩,
    ⟨none, .store 3 (.t 2) (.t 23), none, 459008, 1, []⟩,
    ⟨(some 3), .mv (.k (.int .i64 3)), none, 459264, 2, []⟩])
  (.ret))
  (.skip)))
 (.seq (.reg [⟨(some 24), .load 3 true (.t 4), none, 524288, 0, []⟩,
   ⟨none, .store 3 (.t 2) (.t 24), none, 524544, 1, []⟩,
   ⟨(some 3), .mv (.k (.int .i64 0)), none, 524800, 2, []⟩])
 (.ret))))))⟩
/-- loop.example/g00849/impl.between -/
def F30 : F := ⟨3, 15, [.t 6],
 .seq (.reg [⟨(some 6), .mv (.k (.bool false)), none, 0, 0, []⟩])
 (.seq (.reg [⟨(some 7), .mv (.t 0), none, 65536, 0, []⟩,
   ⟨(some 8), .mv (.t 1), none, 65792, 1, []⟩,
   ⟨(some 9), .bin .geq (.t 7) (.t 8), none, 66048, 2, []⟩,
   ⟨(some 10), .mv (.t 9), none, 66304, 3, []⟩,
   ⟨(some 11), .mv (.t 0), (some (some 10, true)), 66560, 4, []⟩,
   ⟨(some 12), .mv (.t 2), (some (some 10, true)), 66816, 5, []⟩,
   ⟨(some 13), .bin .leq (.t 11) (.t 12), (some (some 10, true)), 67072, 6, []⟩,
   ⟨(some 14), .pick (.t 10) (.t 13) (.k (.bool false)), none, 67328, 7, []⟩,
   ⟨(some 6), .mv (.t 14), none, 67584, 8, []⟩])
 (.ret))⟩
/-- loop.example/g00849/impl.generator -/
def F31 : F := ⟨2, 40, [.cell 4 3 true],
 .seq (.reg [⟨(some 4), .alloc [(.int .i64 0), (.int .i64 0), (.nil true 1)], none, 0, 0, []⟩])
 (.seq (.reg [⟨(some 8), .mv (.t 0), none, 65536, 0, []⟩,
   ⟨(some 9), .call 46 [(.t 8)] false, none, 65792, 1, []⟩,
   ⟨(some 5), .alloc [(.int .i64 0), (.int .i64 0), (.nil true 1)], none, 66048, 2, []⟩,
   ⟨none, .store 3 (.t 5) (.t 9), none, 66304, 3, []⟩])
 (.seq (.reg [⟨(some 10), .mv (.t 0), none, 131072, 0, []⟩,
   ⟨(some 11), .mv (.t 1), none, 131328, 1, []⟩,
   ⟨(some 12), .bin .add (.t 10) (.t 11), none, 131584, 2, []⟩,
   ⟨(some 13), .faddr 0 (.t 5), none, 131840, 3, []⟩,
   ⟨none, .store 1 (.t 13) (.t 12), none, 132096, 4, []⟩])
 (.seq (.seq (.reg [⟨(some 14), .mv (.t 1), none, 196608, 0, []⟩,
   ⟨(some 15), .mv (.k (.int .i64 0)), none, 196864, 1, []⟩])
 (.block 0 (.loop [0, 4, 5, 14, 15] [0, 3, 65792, 65793, 65794, 65795, 66048, 66051, 66305, 66306, 66307, 132097, 786689, 786690, 786691]
  (.seq (.reg [⟨(some 16), .bin .lss (.t 15) (.t 14), none, 262144, 0, []⟩])
  (.seq (.cond (.t 16)
   (.skip)
   (.exit 0))
  (.seq (.block 1 (.seq (.reg [⟨(some 17), .mv (.t 15), none, 327680, 0, []⟩,
    ⟨(some 6), .mv (.t 17), none, 327936, 1, []⟩])
  (.seq (.reg [⟨(some 18), .mv (.t 0), none, 393216, 0, []⟩,
    ⟨(some 19), .mv (.k (.int .i64 0)), none, 393472, 1, []⟩])
  (.block 2 (.loop [0, 4, 5, 6, 14, 15, 18, 19] [0, 3, 65792, 65793, 65794, 65795, 66048, 66051, 66305, 66306, 66307, 132097, 786689, 786690, 786691]
   (.seq (.reg [⟨(some 20), .bin .lss (.t 19) (.t 18), none, 458752, 0, []⟩])
   (.seq (.cond (.t 20)
    (.skip)
    (.exit 2))
   (.seq (.block 3 (.seq (.reg [⟨(some 21), .mv (.t 19), none, 524288, 0, []⟩,
     ⟨(some 7), .mv (.t 21), none, 524544, 1, []⟩])
   (.reg [⟨(some 22), .faddr 2 (.t 5), none, 589824, 0, []⟩,
     ⟨(some 23), .load 1 false (.t 22), none, 590080, 1, []⟩,
     ⟨(some 24), .mv (.t 0), none, 590336, 2, []⟩,
     ⟨(some 25), .mv (.t 6), none, 590592, 3, []⟩,
     ⟨(some 26), .bin .add (.t 24) (.t 25), none, 590848, 4, []⟩,
     ⟨(some 27), .mv (.t 0), none, 591104, 5, []⟩,
     ⟨(some 28), .mv (.t 6), none, 591360, 6, []⟩,
     ⟨(some 29), .bin .add (.t 27) (.t 28), none, 591616, 7, []⟩,
     ⟨(some 30), .mv (.t 7), none, 591872, 8, []⟩,
     ⟨(some 31), .bin .xor (.t 29) (.t 30), none, 592128, 9, []⟩,
     ⟨(some 32), .call 58 [(.t 31)] true, none, 592384, 10, []⟩,
     ⟨(some 33), .call 41 [(.t 26), (.t 32)] true, none, 592640, 11, []⟩,
     ⟨(some 34), .bslice true 1 [(.int .i64 0)] 1 [(0, (.t 33))], none, 592896, 12, []⟩,
     ⟨(some 35), .app true 1 8 (.t 23) (.t 34), none, 593152, 13, []⟩,
     ⟨(some 36), .faddr 2 (.t 5), none, 593408, 14, []⟩,
     ⟨none, .store 1 (.t 36) (.t 35), none, 593664, 15, []⟩])))
   (.reg [⟨(some 37), .bin .add (.t 19) (.k (.int .i64 1)), none, 655360, 0, []⟩,
     ⟨(some 19), .mv (.t 37), none, 655616, 1, []⟩])))))))))
  (.reg [⟨(some 38), .bin .add (.t 15) (.k (.int .i64 1)), none, 720896, 0, []⟩,
    ⟨(some 15), .mv (.t 38), none, 721152, 1, []⟩])))))))
 (.seq (.reg [⟨(some 39), .load 3 true (.t 5), none, 786432, 0, []⟩,
   ⟨none, .store 3 (.t 4) (.t 39), none, 786688, 1, []⟩])
 (.ret)))))⟩
/-- loop.example/g00849/laws.eqInt64S -/
def F32 : F := ⟨2, 26, [.t 4],
 .seq (.reg [⟨(some 4), .mv (.k (.bool false)), none, 0, 0, []⟩])
 (.seq (.seq (.reg [⟨(some 6), .mv (.t 0), none, 65536, 0, []⟩,
   ⟨(some 7), .len false (.t 6), none, 65792, 1, []⟩,
   ⟨(some 8), .mv (.t 1), none, 66048, 2, []⟩,
   ⟨(some 9), .len false (.t 8), none, 66304, 3, []⟩,
   ⟨(some 10), .bin .neq (.t 7) (.t 9), none, 66560, 4, []⟩])
 (.cond (.t 10)
  (.seq (.reg [⟨(some 4), .mv (.k (.bool false)), none, 131072, 0, []⟩])
  (.ret))
  (.skip)))
 (.seq (.seq (.reg [⟨(some 5), .mv (.k (.int .i64 0)), none, 196608, 0, []⟩])
 (.block 0 (.loop [0, 1, 5] []
  (.seq (.seq (.reg [⟨(some 11), .mv (.t 5), none, 262144, 0, []⟩,
    ⟨(some 12), .mv (.t 0), none, 262400, 1, []⟩,
    ⟨(some 13), .len false (.t 12), none, 262656, 2, []⟩,
    ⟨(some 14), .bin .lss (.t 11) (.t 13), none, 262912, 3, []⟩])
  (.cond (.t 14)
   (.skip)
   (.exit 0)))
  (.seq (.block 1 (.seq (.reg [⟨(some 17), .mv (.t 0), none, 393216, 0, []⟩,
    ⟨(some 18), .mv (.t 5), none, 393472, 1, []⟩,
    ⟨(some 19), .iaddr 1 (.t 17) (.t 18), none, 393728, 2, []⟩,
    ⟨(some 20), .load 1 false (.t 19), none, 393984, 3, []⟩,
    ⟨(some 21), .mv (.t 1), none, 394240, 4, []⟩,
    ⟨(some 22), .mv (.t 5), none, 394496, 5, []⟩,
    ⟨(some 23), .iaddr 1 (.t 21) (.t 22), none, 394752, 6, []⟩,
    ⟨(some 24), .load 1 false (.t 23), none, 395008, 7, []⟩,
    ⟨(some 25), .bin .neq (.t 20) (.t 24), none, 395264, 8, []⟩])
  (.cond (.t 25)
   (.seq (.reg [⟨(some 4), .mv (.k (.bool false)), none, 458752, 0, []⟩])
   (.ret))
   (.skip))))
  (.reg [⟨(some 15), .mv (.t 5), none, 327680, 0, []⟩,
    ⟨(some 16), .bin .add (.t 15) (.k (.int .i64 1)), none, 327936, 1, []⟩,
    ⟨(some 5), .mv (.t 16), none, 328192, 2, []⟩]))))))
 (.seq (.reg [⟨(some 4), .mv (.k (.bool true)), none, 524288, 0, []⟩])
 (.ret))))⟩
/-- loop.example/g00849/laws.markInt64S -/
def F33 : F := ⟨2, 19, [.t 4],
 .seq (.reg [⟨(some 4), .mv (.k (.int .i64 0)), none, 0, 0, []⟩])
 (.seq (.seq (.reg [⟨(some 5), .mv (.k (.int .i64 0)), none, 65536, 0, []⟩])
 (.block 0 (.loop [0, 1, 5] []
  (.seq (.seq (.reg [⟨(some 6), .mv (.t 5), none, 131072, 0, []⟩,
    ⟨(some 7), .mv (.t 0), none, 131328, 1, []⟩,
    ⟨(some 8), .len false (.t 7), none, 131584, 2, []⟩,
    ⟨(some 9), .bin .lss (.t 6) (.t 8), none, 131840, 3, []⟩])
  (.cond (.t 9)
   (.skip)
   (.exit 0)))
  (.seq (.block 1 (.seq (.reg [⟨(some 12), .mv (.t 0), none, 262144, 0, []⟩,
    ⟨(some 13), .mv (.t 5), none, 262400, 1, []⟩,
    ⟨(some 14), .mv (.t 1), none, 262656, 2, []⟩,
    ⟨(some 15), .iaddr 1 (.t 12) (.t 13), none, 262912, 3, []⟩,
    ⟨none, .store 1 (.t 15) (.t 14), none, 263168, 4, []⟩])
  (.reg [⟨(some 16), .mv (.t 1), none, 327680, 0, []⟩,
    ⟨(some 17), .bin .add (.t 16) (.k (.int .i64 1)), none, 327936, 1, []⟩,
    ⟨(some 1), .mv (.t 17), none, 328192, 2, []⟩])))
  (.reg [⟨(some 10), .mv (.t 5), none, 196608, 0, []⟩,
    ⟨(some 11), .bin .add (.t 10) (.k (.int .i64 1)), none, 196864, 1, []⟩,
    ⟨(some 5), .mv (.t 11), none, 197120, 2, []⟩]))))))
 (.seq (.reg [⟨(some 18), .mv (.t 1), none, 393216, 0, []⟩,
   ⟨(some 4), .mv (.t 18), none, 393472, 1, []⟩])
 (.ret)))⟩
/-- loop.example/g00849/laws.heldInt64S -/
def F34 : F := ⟨2, 21, [.t 4],
 .seq (.reg [⟨(some 4), .mv (.k (.int .i64 0)), none, 0, 0, []⟩])
 (.seq (.seq (.reg [⟨(some 5), .mv (.k (.int .i64 0)), none, 65536, 0, []⟩])
 (.block 0 (.loop [0, 1, 5] []
  (.seq (.seq (.reg [⟨(some 6), .mv (.t 5), none, 131072, 0, []⟩,
    ⟨(some 7), .mv (.t 0), none, 131328, 1, []⟩,
    ⟨(some 8), .len false (.t 7), none, 131584, 2, []⟩,
    ⟨(some 9), .bin .lss (.t 6) (.t 8), none, 131840, 3, []⟩])
  (.cond (.t 9)
   (.skip)
   (.exit 0)))
  (.seq (.block 1 (.seq (.seq (.reg [⟨(some 12), .mv (.t 0), none, 262144, 0, []⟩,
    ⟨(some 13), .mv (.t 5), none, 262400, 1, []⟩,
    ⟨(some 14), .iaddr 1 (.t 12) (.t 13), none, 262656, 2, []⟩,
    ⟨(some 15), .load 1 false (.t 14), none, 262912, 3, []⟩,
    ⟨(some 16), .mv (.t 1), none, 263168, 4, []⟩,
    ⟨(some 17), .bin .neq (.t 15) (.t 16), none, 263424, 5, []⟩])
  (.cond (.t 17)
   (.seq (.reg [⟨(some 4), .mv (.k (.int .i64 (-1))), none, 327680, 0, []⟩])
   (.ret))
   (.skip)))
  (.reg [⟨(some 18), .mv (.t 1), none, 393216, 0, []⟩,
    ⟨(some 19), .bin .add (.t 18) (.k (.int .i64 1)), none, 393472, 1, []⟩,
    ⟨(some 1), .mv (.t 19), none, 393728, 2, []⟩])))
  (.reg [⟨(some 10), .mv (.t 5), none, 196608, 0, []⟩,
    ⟨(some 11), .bin .add (.t 10) (.k (.int .i64 1)), none, 196864, 1, []⟩,
    ⟨(some 5), .mv (.t 11), none, 197120, 2, []⟩]))))))
 (.seq (.reg [⟨(some 20), .mv (.t 1), none, 458752, 0, []⟩,
   ⟨(some 4), .mv (.t 20), none, 459008, 1, []⟩])
 (.ret)))⟩
/-- loop.example/g00849/laws.szInt64S -/
def F35 : F := ⟨2, 12, [.t 4],
 .seq (.reg [⟨(some 4), .mv (.k (.int .i64 0)), none, 0, 0, []⟩])
 (.seq (.reg [⟨(some 5), .mv (.t 1), none, 65536, 0, []⟩,
   ⟨(some 6), .mv (.t 0), none, 65792, 1, []⟩,
   ⟨(some 7), .len false (.t 6), none, 66048, 2, []⟩,
   ⟨(some 8), .bin .sub (.t 5) (.t 7), none, 66304, 3, []⟩,
   ⟨(some 1), .mv (.t 8), none, 66560, 4, []⟩])
 (.seq (.seq (.reg [⟨(some 9), .mv (.t 1), none, 131072, 0, []⟩,
   ⟨(some 10), .bin .lss (.t 9) (.k (.int .i64 0)), none, 131328, 1, []⟩])
 (.cond (.t 10)
  (.seq (.reg [⟨(some 4), .mv (.k (.int .i64 (-1))), none, 196608, 0, []⟩])
  (.ret))
  (.skip)))
 (.seq (.reg [⟨(some 11), .mv (.t 1), none, 262144, 0, []⟩,
   ⟨(some 4), .mv (.t 11), none, 262400, 1, []⟩])
 (.ret))))⟩
/-- loop.example/g00849/spec.l03OK -/
def F36 : F := ⟨1, 39, [.t 2],
 .seq (.reg [⟨(some 1), .box (.t 0), none, 0, 0, []⟩,
   ⟨(some 2), .mv (.k (.bool false)), none, 256, 1, []⟩])
 (.seq (.seq (.reg [⟨(some 4), .faddr 0 (.t 1), none, 65536, 0, []⟩,
   ⟨(some 5), .load 1 false (.t 4), none, 65792, 1, []⟩,
   ⟨(some 6), .call 59 [(.t 5), (.k (.int .i64 1)), (.k (.int .i64 8))] true, none, 66048, 2, []⟩,
   ⟨(some 7), .not (.t 6), none, 66304, 3, []⟩,
   ⟨(some 8), .mv (.t 7), none, 66560, 4, []⟩,
   ⟨(some 9), .faddr 1 (.t 1), (some (some 8, false)), 66816, 5, []⟩,
   ⟨(some 10), .load 1 false (.t 9), (some (some 8, false)), 67072, 6, []⟩,
   ⟨(some 11), .call 59 [(.t 10), (.k (.int .i64 1)), (.k (.int .i64 8))] true, (some (some 8, false)), 67328, 7, []⟩,
   ⟨(some 12), .not (.t 11), (some (some 8, false)), 67584, 8, []⟩,
   ⟨(some 13), .pick (.t 8) (.k (.bool true)) (.t 12), none, 67840, 9, []⟩,
   ⟨(some 14), .mv (.t 13), none, 68096, 10, []⟩,
   ⟨(some 15), .faddr 2 (.t 1), (some (some 14, false)), 68352, 11, []⟩,
   ⟨(some 16), .load 1 false (.t 15), (some (some 14, false)), 68608, 12, []⟩,
   ⟨(some 17), .len false (.t 16), (some (some 14, false)), 68864, 13, []⟩,
   ⟨(some 18), .faddr 0 (.t 1), (some (some 14, false)), 69120, 14, []⟩,
   ⟨(some 19), .load 1 false (.t 18), (some (some 14, false)), 69376, 15, []⟩,
   ⟨(some 20), .faddr 1 (.t 1), (some (some 14, false)), 69632, 16, []⟩,
   ⟨(some 21), .load 1 false (.t 20), (some (some 14, false)), 69888, 17, []⟩,
   ⟨(some 22), .bin .mul (.t 19) (.t 21), (some (some 14, false)), 70144, 18, []⟩,
   ⟨(some 23), .bin .neq (.t 17) (.t 22), (some (some 14, false)), 70400, 19, []⟩,
   ⟨(some 24), .pick (.t 14) (.k (.bool true)) (.t 23), none, 70656, 20, []⟩])
 (.cond (.t 24)
  (.seq (.reg [⟨(some 2), .mv (.k (.bool false)), none, 131072, 0, []⟩])
  (.ret))
  (.skip)))
 (.seq (.seq (.reg [⟨(some 3), .mv (.k (.int .i64 0)), none, 196608, 0, []⟩])
 (.block 0 (.loop [1, 3] [0, 1, 2, 3, 4, 5]
  (.seq (.seq (.reg [⟨(some 25), .mv (.t 3), none, 262144, 0, []⟩,
    ⟨(some 26), .faddr 2 (.t 1), none, 262400, 1, []⟩,
    ⟨(some 27), .load 1 false (.t 26), none, 262656, 2, []⟩,
    ⟨(some 28), .len false (.t 27), none, 262912, 3, []⟩,
    ⟨(some 29), .bin .lss (.t 25) (.t 28), none, 263168, 4, []⟩])
  (.cond (.t 29)
   (.skip)
   (.exit 0)))
  (.seq (.block 1 (.seq (.reg [⟨(some 32), .faddr 2 (.t 1), none, 393216, 0, []⟩,
    ⟨(some 33), .load 1 false (.t 32), none, 393472, 1, []⟩,
    ⟨(some 34), .mv (.t 3), none, 393728, 2, []⟩,
    ⟨(some 35), .iaddr 1 (.t 33) (.t 34), none, 393984, 3, []⟩,
    ⟨(some 36), .load 1 false (.t 35), none, 394240, 4, []⟩,
    ⟨(some 37), .call 60 [(.t 36)] true, none, 394496, 5, []⟩,
    ⟨(some 38), .not (.t 37), none, 394752, 6, []⟩])
  (.cond (.t 38)
   (.seq (.reg [⟨(some 2), .mv (.k (.bool false)), none, 458752, 0, []⟩])
   (.ret))
   (.skip))))
  (.reg [⟨(some 30), .mv (.t 3), none, 327680, 0, []⟩,
    ⟨(some 31), .bin .add (.t 30) (.k (.int .i64 1)), none, 327936, 1, []⟩,
    ⟨(some 3), .mv (.t 31), none, 328192, 2, []⟩]))))))
 (.seq (.reg [⟨(some 2), .mv (.k (.bool true)), none, 524288, 0, []⟩])
 (.ret))))⟩
/-- loop.example/g00849/laws.toInt64S -/
def F38 : F := ⟨1, 22, [.t 2],
 .seq (.reg [⟨(some 2), .nil0 true 1, none, 0, 0, []⟩])
 (.seq (.reg [⟨(some 5), .mv (.t 0), none, 65536, 0, []⟩,
   ⟨(some 6), .len false (.t 5), none, 65792, 1, []⟩,
   ⟨(some 7), .mksl true 1 8 [(.int .i64 0)] (.t 6) (.t 6), none, 66048, 2, []⟩,
   ⟨(some 3), .mv (.t 7), none, 66304, 3, []⟩])
 (.seq (.seq (.reg [⟨(some 4), .mv (.k (.int .i64 0)), none, 131072, 0, []⟩])
 (.block 0 (.loop [0, 3, 4] [0, 66048]
  (.seq (.seq (.reg [⟨(some 8), .mv (.t 4), none, 196608, 0, []⟩,
    ⟨(some 9), .mv (.t 0), none, 196864, 1, []⟩,
    ⟨(some 10), .len false (.t 9), none, 197120, 2, []⟩,
    ⟨(some 11), .bin .lss (.t 8) (.t 10), none, 197376, 3, []⟩])
  (.cond (.t 11)
   (.skip)
   (.exit 0)))
  (.seq (.block 1 (.reg [⟨(some 14), .mv (.t 3), none, 327680, 0, []⟩,
    ⟨(some 15), .mv (.t 4), none, 327936, 1, []⟩,
    ⟨(some 16), .mv (.t 0), none, 328192, 2, []⟩,
    ⟨(some 17), .mv (.t 4), none, 328448, 3, []⟩,
    ⟨(some 18), .iaddr 1 (.t 16) (.t 17), none, 328704, 4, []⟩,
    ⟨(some 19), .load 1 false (.t 18), none, 328960, 5, []⟩,
    ⟨(some 20), .iaddr 1 (.t 14) (.t 15), none, 329216, 6, []⟩,
    ⟨none, .store 1 (.t 20) (.t 19), none, 329472, 7, []⟩]))
  (.reg [⟨(some 12), .mv (.t 4), none, 262144, 0, []⟩,
    ⟨(some 13), .bin .add (.t 12) (.k (.int .i64 1)), none, 262400, 1, []⟩,
    ⟨(some 4), .mv (.t 13), none, 262656, 2, []⟩]))))))
 (.seq (.reg [⟨(some 21), .mv (.t 3), none, 393216, 0, []⟩,
   ⟨(some 2), .mv (.t 21), none, 393472, 1, []⟩])
 (.ret))))⟩
/-- loop.example/g00849/impl.MatrixOk -/
def F39 : F := ⟨1, 28, [.t 2],
 .seq (.reg [⟨(some 1), .box (.t 0), none, 0, 0, []⟩,
   ⟨(some 2), .mv (.k (.bool false)), none, 256, 1, []⟩])
 (.seq (.reg [⟨(some 3), .faddr 0 (.t 1), none, 65536, 0, []⟩,
   ⟨(some 4), .load 1 false (.t 3), none, 65792, 1, []⟩,
   ⟨(some 5), .call 30 [(.t 4), (.k (.int .i64 1)), (.k (.int .i64 8))] true, none, 66048, 2, []⟩,
   ⟨(some 6), .mv (.t 5), none, 66304, 3, []⟩,
   ⟨(some 7), .faddr 1 (.t 1), (some (some 6, true)), 66560, 4, []⟩,
   ⟨(some 8), .load 1 false (.t 7), (some (some 6, true)), 66816, 5, []⟩,
   ⟨(some 9), .call 30 [(.t 8), (.k (.int .i64 1)), (.k (.int .i64 8))] true, (some (some 6, true)), 67072, 6, []⟩,
   ⟨(some 10), .pick (.t 6) (.t 9) (.k (.bool false)), none, 67328, 7, []⟩,
   ⟨(some 11), .mv (.t 10), none, 67584, 8, []⟩,
   ⟨(some 12), .faddr 2 (.t 1), (some (some 11, true)), 67840, 9, []⟩,
   ⟨(some 13), .load 1 false (.t 12), (some (some 11, true)), 68096, 10, []⟩,
   ⟨(some 14), .len false (.t 13), (some (some 11, true)), 68352, 11, []⟩,
   ⟨(some 15), .faddr 0 (.t 1), (some (some 11, true)), 68608, 12, []⟩,
   ⟨(some 16), .load 1 false (.t 15), (some (some 11, true)), 68864, 13, []⟩,
   ⟨(some 17), .faddr 1 (.t 1), (some (some 11, true)), 69120, 14, []⟩,
   ⟨(some 18), .load 1 false (.t 17), (some (some 11, true)), 69376, 15, []⟩,
   ⟨(some 19), .bin .mul (.t 16) (.t 18), (some (some 11, true)), 69632, 16, []⟩,
   ⟨(some 20), .bin .eql (.t 14) (.t 19), (some (some 11, true)), 69888, 17, []⟩,
   ⟨(some 21), .pick (.t 11) (.t 20) (.k (.bool false)), none, 70144, 18, []⟩,
   ⟨(some 22), .mv (.t 21), none, 70400, 19, []⟩,
   ⟨(some 23), .faddr 2 (.t 1), (some (some 22, true)), 70656, 20, []⟩,
   ⟨(some 24), .load 1 false (.t 23), (some (some 22, true)), 70912, 21, []⟩,
   ⟨(some 25), .call 42 [(.t 24), (.k (.fn 61 []))] true, (some (some 22, true)), 71168, 22, []⟩,
   ⟨(some 26), .not (.t 25), (some (some 22, true)), 71424, 23, []⟩,
   ⟨(some 27), .pick (.t 22) (.t 26) (.k (.bool false)), none, 71680, 24, []⟩,
   ⟨(some 2), .mv (.t 27), none, 71936, 25, []⟩])
 (.ret))⟩
/-- (loop.example/g00849/impl.Matrix).row -/
def F40 : F := ⟨2, 17, [.t 4],
 .seq (.reg [⟨(some 2), .box (.t 0), none, 0, 0, []⟩,
   ⟨(some 4), .nil0 true 1, none, 256, 1, []⟩])
 (.seq (.reg [⟨(some 5), .faddr 2 (.t 2), none, 65536, 0, []⟩,
   ⟨(some 6), .load 1 false (.t 5), none, 65792, 1, []⟩,
   ⟨(some 7), .mv (.t 1), none, 66048, 2, []⟩,
   ⟨(some 8), .faddr 1 (.t 2), none, 66304, 3, []⟩,
   ⟨(some 9), .load 1 false (.t 8), none, 66560, 4, []⟩,
   ⟨(some 10), .bin .mul (.t 7) (.t 9), none, 66816, 5, []⟩,
   ⟨(some 11), .mv (.t 1), none, 67072, 6, []⟩,
   ⟨(some 12), .bin .add (.t 11) (.k (.int .i64 1)), none, 67328, 7, []⟩,
   ⟨(some 13), .faddr 1 (.t 2), none, 67584, 8, []⟩,
   ⟨(some 14), .load 1 false (.t 13), none, 67840, 9, []⟩,
   ⟨(some 15), .bin .mul (.t 12) (.t 14), none, 68096, 10, []⟩,
   ⟨(some 16), .cut 1 (.t 6) (some (.t 10)) (some (.t 15)), none, 68352, 11, []⟩,
   ⟨(some 4), .mv (.t 16), none, 68608, 12, []⟩])
 (.ret))⟩
/-- loop.example/g00849/impl.times -/
def F41 : F := ⟨2, 19, [.t 4],
 .seq (.reg [⟨(some 4), .mv (.k (.int .i64 0)), none, 0, 0, []⟩])
 (.seq (.reg [⟨(some 5), .mv (.k (.int .i64 0)), none, 65536, 0, []⟩])
 (.seq (.block 0 (.loop [0, 1, 5] []
  (.seq (.seq (.reg [⟨(some 6), .mv (.t 1), none, 131072, 0, []⟩,
    ⟨(some 7), .bin .gtr (.t 6) (.k (.int .i64 0)), none, 131328, 1, []⟩])
  (.cond (.t 7)
   (.skip)
   (.exit 0)))
  (.seq (.block 1 (.seq (.seq (.reg [⟨(some 10), .mv (.t 1), none, 262144, 0, []⟩,
    ⟨(some 11), .bin .rem (.t 10) (.k (.int .i64 2)), none, 262400, 1, []⟩,
    ⟨(some 12), .bin .eql (.t 11) (.k (.int .i64 1)), none, 262656, 2, []⟩])
  (.cond (.t 12)
   (.reg [⟨(some 13), .mv (.t 5), none, 327680, 0, []⟩,
     ⟨(some 14), .mv (.t 0), none, 327936, 1, []⟩,
     ⟨(some 15), .bin .xor (.t 13) (.t 14), none, 328192, 2, []⟩,
     ⟨(some 5), .mv (.t 15), none, 328448, 3, []⟩])
   (.skip)))
  (.reg [⟨(some 16), .mv (.t 0), none, 393216, 0, []⟩,
    ⟨(some 17), .call 63 [(.t 16)] true, none, 393472, 1, []⟩,
    ⟨(some 0), .mv (.t 17), none, 393728, 2, []⟩])))
  (.reg [⟨(some 8), .mv (.t 1), none, 196608, 0, []⟩,
    ⟨(some 9), .bin .quo (.t 8) (.k (.int .i64 2)), none, 196864, 1, []⟩,
    ⟨(some 1), .mv (.t 9), none, 197120, 2, []⟩])))))
 (.seq (.reg [⟨(some 18), .mv (.t 5), none, 458752, 0, []⟩,
   ⟨(some 4), .mv (.t 18), none, 459008, 1, []⟩])
 (.ret))))⟩
/-- slices.ContainsFunc[[]int64,int64] -/
def F42 : F := ⟨2, 9, [.t 4],
 .seq (.reg [⟨(some 4), .mv (.k (.bool false)), none, 0, 0, []⟩])
 (.seq (.reg [⟨(some 5), .mv (.t 0), none, 65536, 0, []⟩,
   ⟨(some 6), .mv (.t 1), none, 65792, 1, []⟩,
   ⟨(some 7), .call 64 [(.t 5), (.t 6)] true, none, 66048, 2, []⟩,
   ⟨(some 8), .bin .geq (.t 7) (.k (.int .i64 0)), none, 66304, 3, []⟩,
   ⟨(some 4), .mv (.t 8), none, 66560, 4, []⟩])
 (.ret))⟩
/-- loop.example/g00849/impl.MatRows$1 -/
def F43 : F := ⟨2, 10, [.t 3],
 .seq (.reg [⟨(some 3), .mv (.k (.bool false)), none, 0, 0, []⟩])
 (.seq (.reg [⟨(some 4), .mv (.t 0), none, 65536, 0, []⟩,
   ⟨(some 5), .faddr 0 (.t 1), none, 65792, 1, []⟩,
   ⟨(some 6), .load 1 false (.t 5), none, 66048, 2, []⟩,
   ⟨(some 7), .bin .sub (.t 6) (.k (.int .i64 1)), none, 66304, 3, []⟩,
   ⟨(some 8), .call 30 [(.t 4), (.k (.int .i64 0)), (.t 7)] true, none, 66560, 4, []⟩,
   ⟨(some 9), .not (.t 8), none, 66816, 5, []⟩,
   ⟨(some 3), .mv (.t 9), none, 67072, 6, []⟩])
 (.ret))⟩
/-- (loop.example/g00849/impl.Matrix).rows -/
def F44 : F := ⟨2, 28, [.cell 4 3 true],
 .seq (.reg [⟨(some 2), .box (.t 0), none, 0, 0, []⟩,
   ⟨(some 4), .alloc [(.int .i64 0), (.int .i64 0), (.nil true 1)], none, 256, 1, []⟩])
 (.seq (.reg [⟨(some 8), .mv (.t 1), none, 65536, 0, []⟩,
   ⟨(some 9), .len false (.t 8), none, 65792, 1, []⟩,
   ⟨(some 10), .faddr 1 (.t 2), none, 66048, 2, []⟩,
   ⟨(some 11), .load 1 false (.t 10), none, 66304, 3, []⟩,
   ⟨(some 12), .build [(.int .i64 0), (.int .i64 0), (.nil true 1)] [(0, 1, (.t 9)), (1, 1, (.t 11))], none, 66560, 4, []⟩,
   ⟨(some 5), .alloc [(.int .i64 0), (.int .i64 0), (.nil true 1)], none, 66816, 5, []⟩,
   ⟨none, .store 3 (.t 5) (.t 12), none, 67072, 6, []⟩])
 (.seq (.seq (.reg [⟨(some 13), .mv (.t 1), none, 131072, 0, []⟩,
   ⟨(some 14), .len false (.t 13), none, 131328, 1, []⟩,
   ⟨(some 15), .mv (.k (.int .i64 0)), none, 131584, 2, []⟩])
 (.block 0 (.loop [2, 4, 5, 13, 14, 15] [0, 1, 2, 3, 4, 5, 256, 259, 66816, 66819, 67073, 67074, 67075, 459009, 459010, 459011]
  (.seq (.reg [⟨(some 16), .bin .lss (.t 15) (.t 14), none, 196608, 0, []⟩])
  (.seq (.cond (.t 16)
   (.skip)
   (.exit 0))
  (.seq (.block 1 (.seq (.reg [⟨(some 17), .iaddr 1 (.t 13) (.t 15), none, 262144, 0, []⟩,
    ⟨(some 18), .load 1 false (.t 17), none, 262400, 1, []⟩,
    ⟨(some 7), .mv (.t 18), none, 262656, 2, []⟩])
  (.reg [⟨(some 19), .faddr 2 (.t 5), none, 327680, 0, []⟩,
    ⟨(some 20), .load 1 false (.t 19), none, 327936, 1, []⟩,
    ⟨(some 21), .load 3 true (.t 2), none, 328192, 2, []⟩,
    ⟨(some 22), .mv (.t 7), none, 328448, 3, []⟩,
    ⟨(some 23), .call 40 [(.t 21), (.t 22)] false, none, 328704, 4, []⟩,
    ⟨(some 24), .app true 1 8 (.t 20) (.t 23), none, 328960, 5, []⟩,
    ⟨(some 25), .faddr 2 (.t 5), none, 329216, 6, []⟩,
    ⟨none, .store 1 (.t 25) (.t 24), none, 329472, 7, []⟩])))
  (.reg [⟨(some 26), .bin .add (.t 15) (.k (.int .i64 1)), none, 393216, 0, []⟩,
    ⟨(some 15), .mv (.t 26), none, 393472, 1, []⟩])))))))
 (.seq (.reg [⟨(some 27), .load 3 true (.t 5), none, 458752, 0, []⟩,
   ⟨none, .store 3 (.t 4) (.t 27), none, 459008, 1, []⟩])
 (.ret))))⟩
/-- loop.example/g00849/impl.inverted -/
def F45 : F := ⟨1, 126, [.cell 2 3 true, .t 3],
 .seq (.reg [⟨(some 1), .box (.t 0), none, 0, 0, []⟩,
   ⟨(some 2), .alloc [(.int .i64 0), (.int .i64 0), (.nil true 1)], none, 256, 1, []⟩,
   ⟨(some 3), .mv (.k (.bool false)), none, 512, 2, []⟩])
 (.seq (.reg [⟨(some 11), .faddr 0 (.t 1), none, 65536, 0, []⟩,
   ⟨(some 12), .load 1 false (.t 11), none, 65792, 1, []⟩,
   ⟨(some 13), .faddr 1 (.t 1), none, 66048, 2, []⟩,
   ⟨(some 14), .load 1 false (.t 13), none, 66304, 3, []⟩,
   ⟨(some 15), .faddr 2 (.t 1), none, 66560, 4, []⟩,
   ⟨(some 16), .load 1 false (.t 15), none, 66816, 5, []⟩,
   ⟨(some 17), .call 65 [(.t 16)] false, none, 67072, 6, []⟩,
   ⟨(some 18), .build [(.int .i64 0), (.int .i64 0), (.nil true 1)] [(0, 1, (.t 12)), (1, 1, (.t 14)), (2, 1, (.t 17))], none, 67328, 7, []⟩,
   ⟨(some 4), .alloc [(.int .i64 0), (.int .i64 0), (.nil true 1)], none, 67584, 8, []⟩,
   ⟨none, .store 3 (.t 4) (.t 18), none, 67840, 9, []⟩])
 (.seq (.reg [⟨(some 19), .faddr 0 (.t 1), none, 131072, 0, []⟩,
   ⟨(some 20), .load 1 false (.t 19), none, 131328, 1, []⟩,
   ⟨(some 21), .call 46 [(.t 20)] false, none, 131584, 2, []⟩,
   ⟨(some 5), .alloc [(.int .i64 0), (.int .i64 0), (.nil true 1)], none, 131840, 3, []⟩,
   ⟨none, .store 3 (.t 5) (.t 21), none, 132096, 4, []⟩])
 (.seq (.seq (.reg [⟨(some 22), .faddr 0 (.t 1), none, 196608, 0, []⟩,
   ⟨(some 23), .load 1 false (.t 22), none, 196864, 1, []⟩,
   ⟨(some 24), .mv (.k (.int .i64 0)), none, 197120, 2, []⟩])
 (.block 0 (.loop [1, 2, 4, 5, 23, 24] [0, 1, 2, 3, 4, 5, 256, 259, 67072, 67073, 67074, 67075, 67584, 67587, 67841, 67842, 67843, 131584, 131585, 131586, 131587, 131840, 131843, 132097, 132098, 132099, 1704193, 1704194, 1704195]
  (.seq (.reg [⟨(some 25), .bin .lss (.t 24) (.t 23), none, 262144, 0, []⟩])
  (.seq (.cond (.t 25)
   (.skip)
   (.exit 0))
  (.seq (.block 1 (.seq (.reg [⟨(some 26), .mv (.t 24), none, 327680, 0, []⟩,
    ⟨(some 6), .mv (.t 26), none, 327936, 1, []⟩])
  (.seq (.seq (.reg [⟨(some 27), .mv (.t 6), none, 393216, 0, []⟩,
    ⟨(some 7), .mv (.t 27), none, 393472, 1, []⟩])
  (.block 2 (.loop [1, 2, 4, 5, 6, 7, 23, 24] [0, 1, 2, 3, 4, 5, 256, 259, 67072, 67073, 67074, 67075, 67584, 67587, 67841, 67842, 67843, 131584, 131585, 131586, 131587, 131840, 131843, 132097, 132098, 132099, 918016, 918017, 918018, 918019, 983552, 983553, 983554, 983555, 984320, 984321, 984322, 984323, 984576, 984577, 984578, 984579, 1049088, 1049089, 1049090, 1049091, 1049856, 1049857, 1049858, 1049859, 1050112, 1050113, 1050114, 1050115, 1311232, 1311233, 1311234, 1311235, 1442304, 1442305, 1442306, 1442307, 1443072, 1443073, 1443074, 1443075, 1507840, 1507841, 1507842, 1507843, 1508608, 1508609, 1508610, 1508611, 1704193, 1704194, 1704195]
   (.seq (.seq (.reg [⟨(some 28), .load 3 true (.t 4), none, 458752, 0, []⟩,
     ⟨(some 29), .mv (.t 6), none, 459008, 1, []⟩,
     ⟨(some 30), .call 40 [(.t 28), (.t 29)] false, none, 459264, 2, []⟩,
     ⟨(some 31), .mv (.t 6), none, 459520, 3, []⟩,
     ⟨(some 32), .iaddr 1 (.t 30) (.t 31), none, 459776, 4, []⟩,
     ⟨(some 33), .load 1 false (.t 32), none, 460032, 5, []⟩,
     ⟨(some 34), .bin .eql (.t 33) (.k (.int .i64 0)), none, 460288, 6, []⟩])
   (.cond (.t 34)
    (.skip)
    (.exit 2)))
   (.seq (.block 3 (.seq (.seq (.reg [⟨(some 37), .mv (.t 7), none, 589824, 0, []⟩,
     ⟨(some 38), .faddr 0 (.t 1), none, 590080, 1, []⟩,
     ⟨(some 39), .load 1 false (.t 38), none, 590336, 2, []⟩,
     ⟨(some 40), .bin .eql (.t 37) (.t 39), none, 590592, 3, []⟩])
   (.cond (.t 40)
    (.seq (.reg [⟨(some 41), .build [(.int .i64 0), (.int .i64 0), (.nil true 1)] [], none, 655360, 0, []⟩,
      ⟨none, .store 3 (.t 2) (.t 41), none, 655616, 1, []⟩,
      ⟨(some 3), .mv (.k (.bool false)), none, 655872, 2, []⟩])
    (.ret))
    (.skip)))
   (.seq (.reg [⟨(some 42), .load 3 true (.t 4), none, 720896, 0, []⟩,
     ⟨(some 43), .mv (.t 7), none, 721152, 1, []⟩,
     ⟨(some 44), .call 40 [(.t 42), (.t 43)] false, none, 721408, 2, []⟩,
     ⟨(some 45), .mv (.t 6), none, 721664, 3, []⟩,
     ⟨(some 46), .iaddr 1 (.t 44) (.t 45), none, 721920, 4, []⟩,
     ⟨(some 47), .load 1 false (.t 46), none, 722176, 5, []⟩,
     ⟨(some 48), .bin .neq (.t 47) (.k (.int .i64 0)), none, 722432, 6, []⟩])
   (.cond (.t 48)
    (.seq (.reg [⟨(some 49), .load 3 true (.t 4), none, 786432, 0, []⟩,
      ⟨(some 50), .mv (.t 6), none, 786688, 1, []⟩,
      ⟨(some 51), .call 40 [(.t 49), (.t 50)] false, none, 786944, 2, []⟩,
      ⟨(some 52), .load 3 true (.t 4), none, 787200, 3, []⟩,
      ⟨(some 53), .mv (.t 7), none, 787456, 4, []⟩,
      ⟨(some 54), .call 40 [(.t 52), (.t 53)] false, none, 787712, 5, []⟩,
      ⟨(some 55), .call 66 [(.t 51), (.t 54), (.k (.int .i64 1))] true, none, 787968, 6, []⟩])
    (.reg [⟨(some 56), .load 3 true (.t 5), none, 851968, 0, []⟩,
      ⟨(some 57), .mv (.t 6), none, 852224, 1, []⟩,
      ⟨(some 58), .call 40 [(.t 56), (.t 57)] false, none, 852480, 2, []⟩,
      ⟨(some 59), .load 3 true (.t 5), none, 852736, 3, []⟩,
      ⟨(some 60), .mv (.t 7), none, 852992, 4, []⟩,
      ⟨(some 61), .call 40 [(.t 59), (.t 60)] false, none, 853248, 5, []⟩,
      ⟨(some 62), .call 66 [(.t 58), (.t 61), (.k (.int .i64 1))] true, none, 853504, 6, []⟩]))
    (.skip)))))
   (.reg [⟨(some 35), .mv (.t 7), none, 524288, 0, []⟩,
     ⟨(some 36), .bin .add (.t 35) (.k (.int .i64 1)), none, 524544, 1, []⟩,
     ⟨(some 7), .mv (.t 36), none, 524800, 2, []⟩]))))))
  (.seq (.reg [⟨(some 63), .load 3 true (.t 4), none, 917504, 0, []⟩,
    ⟨(some 64), .mv (.t 6), none, 917760, 1, []⟩,
    ⟨(some 65), .call 40 [(.t 63), (.t 64)] false, none, 918016, 2, []⟩,
    ⟨(some 66), .mv (.t 6), none, 918272, 3, []⟩,
    ⟨(some 67), .iaddr 1 (.t 65) (.t 66), none, 918528, 4, []⟩,
    ⟨(some 68), .load 1 false (.t 67), none, 918784, 5, []⟩,
    ⟨(some 69), .call 58 [(.t 68)] true, none, 919040, 6, []⟩,
    ⟨(some 70), .bin .xor (.t 69) (.k (.int .i64 1)), none, 919296, 7, []⟩,
    ⟨(some 8), .mv (.t 70), none, 919552, 8, []⟩])
  (.seq (.reg [⟨(some 71), .load 3 true (.t 4), none, 983040, 0, []⟩,
    ⟨(some 72), .mv (.t 6), none, 983296, 1, []⟩,
    ⟨(some 73), .call 40 [(.t 71), (.t 72)] false, none, 983552, 2, []⟩,
    ⟨(some 74), .load 3 true (.t 4), none, 983808, 3, []⟩,
    ⟨(some 75), .mv (.t 6), none, 984064, 4, []⟩,
    ⟨(some 76), .call 40 [(.t 74), (.t 75)] false, none, 984320, 5, []⟩,
    ⟨(some 77), .call 65 [(.t 76)] false, none, 984576, 6, []⟩,
    ⟨(some 78), .mv (.t 8), none, 984832, 7, []⟩,
    ⟨(some 79), .call 66 [(.t 73), (.t 77), (.t 78)] true, none, 985088, 8, []⟩])
  (.seq (.reg [⟨(some 80), .load 3 true (.t 5), none, 1048576, 0, []⟩,
    ⟨(some 81), .mv (.t 6), none, 1048832, 1, []⟩,
    ⟨(some 82), .call 40 [(.t 80), (.t 81)] false, none, 1049088, 2, []⟩,
    ⟨(some 83), .load 3 true (.t 5), none, 1049344, 3, []⟩,
    ⟨(some 84), .mv (.t 6), none, 1049600, 4, []⟩,
    ⟨(some 85), .call 40 [(.t 83), (.t 84)] false, none, 1049856, 5, []⟩,
    ⟨(some 86), .call 65 [(.t 85)] false, none, 1050112, 6, []⟩,
    ⟨(some 87), .mv (.t 8), none, 1050368, 7, []⟩,
    ⟨(some 88), .call 66 [(.t 82), (.t 86), (.t 87)] true, none, 1050624, 8, []⟩])
  (.seq (.reg [⟨(some 89), .faddr 0 (.t 1), none, 1114112, 0, []⟩,
    ⟨(some 90), .load 1 false (.t 89), none, 1114368, 1, []⟩,
    ⟨(some 91), .mv (.k (.int .i64 0)), none, 1114624, 2, []⟩])
  (.block 4 (.loop [1, 2, 4, 5, 6, 23, 24, 90, 91] [0, 1, 2, 3, 4, 5, 256, 259, 67072, 67073, 67074, 67075, 67584, 67587, 67841, 67842, 67843, 131584, 131585, 131586, 131587, 131840, 131843, 132097, 132098, 132099, 459264, 459265, 459266, 459267, 655617, 655618, 655619, 721408, 721409, 721410, 721411, 786944, 786945, 786946, 786947, 787712, 787713, 787714, 787715, 852480, 852481, 852482, 852483, 853248, 853249, 853250, 853251, 918016, 918017, 918018, 918019, 983552, 983553, 983554, 983555, 984320, 984321, 984322, 984323, 984576, 984577, 984578, 984579, 1049088, 1049089, 1049090, 1049091, 1049856, 1049857, 1049858, 1049859, 1050112, 1050113, 1050114, 1050115, 1704193, 1704194, 1704195]
   (.seq (.reg [⟨(some 92), .bin .lss (.t 91) (.t 90), none, 1179648, 0, []⟩])
   (.seq (.cond (.t 92)
    (.skip)
    (.exit 4))
   (.seq (.block 5 (.seq (.reg [⟨(some 93), .mv (.t 91), none, 1245184, 0, []⟩,
     ⟨(some 9), .mv (.t 93), none, 1245440, 1, []⟩])
   (.seq (.reg [⟨(some 94), .load 3 true (.t 4), none, 1310720, 0, []⟩,
     ⟨(some 95), .mv (.t 9), none, 1310976, 1, []⟩,
     ⟨(some 96), .call 40 [(.t 94), (.t 95)] false, none, 1311232, 2, []⟩,
     ⟨(some 97), .mv (.t 6), none, 1311488, 3, []⟩,
     ⟨(some 98), .iaddr 1 (.t 96) (.t 97), none, 1311744, 4, []⟩,
     ⟨(some 99), .load 1 false (.t 98), none, 1312000, 5, []⟩,
     ⟨(some 10), .mv (.t 99), none, 1312256, 6, []⟩])
   (.seq (.reg [⟨(some 100), .mv (.t 9), none, 1376256, 0, []⟩,
     ⟨(some 101), .mv (.t 6), none, 1376512, 1, []⟩,
     ⟨(some 102), .bin .neq (.t 100) (.t 101), none, 1376768, 2, []⟩,
     ⟨(some 103), .mv (.t 102), none, 1377024, 3, []⟩,
     ⟨(some 104), .mv (.t 10), (some (some 103, true)), 1377280, 4, []⟩,
     ⟨(some 105), .bin .neq (.t 104) (.k (.int .i64 0)), (some (some 103, true)), 1377536, 5, []⟩,
     ⟨(some 106), .pick (.t 103) (.t 105) (.k (.bool false)), none, 1377792, 6, []⟩])
   (.cond (.t 106)
    (.seq (.reg [⟨(some 107), .load 3 true (.t 4), none, 1441792, 0, []⟩,
      ⟨(some 108), .mv (.t 9), none, 1442048, 1, []⟩,
      ⟨(some 109), .call 40 [(.t 107), (.t 108)] false, none, 1442304, 2, []⟩,
      ⟨(some 110), .load 3 true (.t 4), none, 1442560, 3, []⟩,
      ⟨(some 111), .mv (.t 6), none, 1442816, 4, []⟩,
      ⟨(some 112), .call 40 [(.t 110), (.t 111)] false, none, 1443072, 5, []⟩,
      ⟨(some 113), .mv (.t 10), none, 1443328, 6, []⟩,
      ⟨(some 114), .call 66 [(.t 109), (.t 112), (.t 113)] true, none, 1443584, 7, []⟩])
    (.reg [⟨(some 115), .load 3 true (.t 5), none, 1507328, 0, []⟩,
      ⟨(some 116), .mv (.t 9), none, 1507584, 1, []⟩,
      ⟨(some 117), .call 40 [(.t 115), (.t 116)] false, none, 1507840, 2, []⟩,
      ⟨(some 118), .load 3 true (.t 5), none, 1508096, 3, []⟩,
      ⟨(some 119), .mv (.t 6), none, 1508352, 4, []⟩,
      ⟨(some 120), .call 40 [(.t 118), (.t 119)] false, none, 1508608, 5, []⟩,
      ⟨(some 121), .mv (.t 10), none, 1508864, 6, []⟩,
      ⟨(some 122), .call 66 [(.t 117), (.t 120), (.t 121)] true, none, 1509120, 7, []⟩]))
    (.skip))))))
   (.reg [⟨(some 123), .bin .add (.t 91) (.k (.int .i64 1)), none, 1572864, 0, []⟩,
     ⟨(some 91), .mv (.t 123), none, 1573120, 1, []⟩])))))))))))))
  (.reg [⟨(some 124), .bin .add (.t 24) (.k (.int .i64 1)), none, 1638400, 0, []⟩,
    ⟨(some 24), .mv (.t 124), none, 1638656, 1, []⟩])))))))
 (.seq (.reg [⟨(some 125), .load 3 true (.t 5), none, 1703936, 0, []⟩,
   ⟨none, .store 3 (.t 2) (.t 125), none, 1704192, 1, []⟩,
   ⟨(some 3), .mv (.k (.bool true)), none, 1704448, 2, []⟩])
 (.ret)))))⟩
/-- loop.example/g00849/impl.unit -/
def F46 : F := ⟨1, 23, [.cell 2 3 true],
 .seq (.reg [⟨(some 2), .alloc [(.int .i64 0), (.int .i64 0), (.nil true 1)], none, 0, 0, []⟩])
 (.seq (.reg [⟨(some 5), .mv (.t 0), none, 65536, 0, []⟩,
   ⟨(some 6), .mv (.t 0), none, 65792, 1, []⟩,
   ⟨(some 7), .mv (.t 0), none, 66048, 2, []⟩,
   ⟨(some 8), .mv (.t 0), none, 66304, 3, []⟩,
   ⟨(some 9), .bin .mul (.t 7) (.t 8), none, 66560, 4, []⟩,
   ⟨(some 10), .mksl true 1 8 [(.int .i64 0)] (.t 9) (.t 9), none, 66816, 5, []⟩,
   ⟨(some 11), .build [(.int .i64 0), (.int .i64 0), (.nil true 1)] [(0, 1, (.t 5)), (1, 1, (.t 6)), (2, 1, (.t 10))], none, 67072, 6, []⟩,
   ⟨(some 3), .alloc [(.int .i64 0), (.int .i64 0), (.nil true 1)], none, 67328, 7, []⟩,
   ⟨none, .store 3 (.t 3) (.t 11), none, 67584, 8, []⟩])
 (.seq (.seq (.reg [⟨(some 12), .mv (.t 0), none, 131072, 0, []⟩,
   ⟨(some 13), .mv (.k (.int .i64 0)), none, 131328, 1, []⟩])
 (.block 0 (.loop [2, 3, 12, 13] [0, 3, 66816, 67328, 67331, 67585, 67586, 67587, 459009, 459010, 459011]
  (.seq (.reg [⟨(some 14), .bin .lss (.t 13) (.t 12), none, 196608, 0, []⟩])
  (.seq (.cond (.t 14)
   (.skip)
   (.exit 0))
  (.seq (.block 1 (.seq (.reg [⟨(some 15), .mv (.t 13), none, 262144, 0, []⟩,
    ⟨(some 4), .mv (.t 15), none, 262400, 1, []⟩])
  (.reg [⟨(some 16), .load 3 true (.t 3), none, 327680, 0, []⟩,
    ⟨(some 17), .mv (.t 4), none, 327936, 1, []⟩,
    ⟨(some 18), .call 40 [(.t 16), (.t 17)] false, none, 328192, 2, []⟩,
    ⟨(some 19), .mv (.t 4), none, 328448, 3, []⟩,
    ⟨(some 20), .iaddr 1 (.t 18) (.t 19), none, 328704, 4, []⟩,
    ⟨none, .store 1 (.t 20) (.k (.int .i64 1)), none, 328960, 5, []⟩])))
  (.reg [⟨(some 21), .bin .add (.t 13) (.k (.int .i64 1)), none, 393216, 0, []⟩,
    ⟨(some 13), .mv (.t 21), none, 393472, 1, []⟩])))))))
 (.seq (.reg [⟨(some 22), .load 3 true (.t 3), none, 458752, 0, []⟩,
   ⟨none, .store 3 (.t 2) (.t 22), none, 459008, 1, []⟩])
 (.ret))))⟩
/-- slices.Equal[[]int64,int64] -/
def F47 : F := ⟨2, 26, [.t 4],
 .seq (.reg [⟨(some 4), .mv (.k (.bool false)), none, 0, 0, []⟩])
 (.seq (.seq (.reg [⟨(some 6), .mv (.t 0), none, 65536, 0, []⟩,
   ⟨(some 7), .len false (.t 6), none, 65792, 1, []⟩,
   ⟨(some 8), .mv (.t 1), none, 66048, 2, []⟩,
   ⟨(some 9), .len false (.t 8), none, 66304, 3, []⟩,
   ⟨(some 10), .bin .neq (.t 7) (.t 9), none, 66560, 4, []⟩])
 (.cond (.t 10)
  (.seq (.reg [⟨(some 4), .mv (.k (.bool false)), none, 131072, 0, []⟩])
  (.ret))
  (.skip)))
 (.seq (.seq (.reg [⟨(some 11), .mv (.t 0), none, 196608, 0, []⟩,
   ⟨(some 12), .len false (.t 11), none, 196864, 1, []⟩,
   ⟨(some 13), .mv (.k (.int .i64 0)), none, 197120, 2, []⟩])
 (.block 0 (.loop [0, 1, 12, 13] []
  (.seq (.reg [⟨(some 14), .bin .lss (.t 13) (.t 12), none, 262144, 0, []⟩])
  (.seq (.cond (.t 14)
   (.skip)
   (.exit 0))
  (.seq (.block 1 (.seq (.reg [⟨(some 15), .mv (.t 13), none, 327680, 0, []⟩,
    ⟨(some 5), .mv (.t 15), none, 327936, 1, []⟩])
  (.seq (.reg [⟨(some 16), .mv (.t 0), none, 393216, 0, []⟩,
    ⟨(some 17), .mv (.t 5), none, 393472, 1, []⟩,
    ⟨(some 18), .iaddr 1 (.t 16) (.t 17), none, 393728, 2, []⟩,
    ⟨(some 19), .load 1 false (.t 18), none, 393984, 3, []⟩,
    ⟨(some 20), .mv (.t 1), none, 394240, 4, []⟩,
    ⟨(some 21), .mv (.t 5), none, 394496, 5, []⟩,
    ⟨(some 22), .iaddr 1 (.t 20) (.t 21), none, 394752, 6, []⟩,
    ⟨(some 23), .load 1 false (.t 22), none, 395008, 7, []⟩,
    ⟨(some 24), .bin .neq (.t 19) (.t 23), none, 395264, 8, []⟩])
  (.cond (.t 24)
   (.seq (.reg [⟨(some 4), .mv (.k (.bool false)), none, 458752, 0, []⟩])
   (.ret))
   (.skip)))))
  (.reg [⟨(some 25), .bin .add (.t 13) (.k (.int .i64 1)), none, 524288, 0, []⟩,
    ⟨(some 13), .mv (.t 25), none, 524544, 1, []⟩])))))))
 (.seq (.reg [⟨(some 4), .mv (.k (.bool true)), none, 589824, 0, []⟩])
 (.ret))))⟩
/-- loop.example/g00849/spec.A8Word -/
def F48 : F := ⟨1, 8, [.t 2],
 .seq (.reg [⟨(some 2), .mv (.k (.str ByteArray.empty)), none, 0, 0, []⟩])
 (.seq (.reg [⟨(some 4), .mv (.t 0), none, 65536, 0, []⟩,
   ⟨(some 5), .call 51 [(.t 4)] false, none, 65792, 1, []⟩,
   ⟨(some 3), .mv (.t 5), none, 66048, 2, []⟩])
 (.seq (.reg [⟨(some 6), .mv (.t 3), none, 131072, 0, []⟩,
   ⟨(some 7), .call 67 [(.t 6), (.k (.int .i64 40))] true, none, 131328, 1, []⟩,
   ⟨(some 2), .mv (.t 7), none, 131584, 2, []⟩])
 (.ret)))⟩
/-- loop.example/g00849/laws.a8Mix -/
def F49 : F := ⟨2, 10, [.t 4],
 .seq (.reg [⟨(some 4), .nil0 true 1, none, 0, 0, []⟩])
 (.seq (.reg [⟨(some 5), .mv (.t 0), none, 65536, 0, []⟩,
   ⟨(some 6), .conv .u8 (.t 5), none, 65792, 1, []⟩,
   ⟨(some 7), .bslice true 1 [(.int .u8 0)] 1 [(0, (.t 6))], none, 66048, 2, []⟩,
   ⟨(some 8), .mv (.t 1), none, 66304, 3, []⟩,
   ⟨(some 9), .app true 1 1 (.t 7) (.t 8), none, 66560, 4, []⟩,
   ⟨(some 4), .mv (.t 9), none, 66816, 5, []⟩])
 (.ret))⟩
/-- (loop.example/g00849/impl.Code).shards -/
def F50 : F := ⟨2, 44, [.t 4],
 .seq (.reg [⟨(some 2), .box (.t 0), none, 0, 0, []⟩,
   ⟨(some 4), .nil0 true 1, none, 256, 1, []⟩])
 (.seq (.reg [⟨(some 9), .load 2 true (.t 2), none, 65536, 0, []⟩,
   ⟨(some 10), .mv (.t 1), none, 65792, 1, []⟩,
   ⟨(some 11), .len true (.t 10), none, 66048, 2, []⟩,
   ⟨(some 12), .call 68 [(.t 9), (.t 11)] true, none, 66304, 3, []⟩,
   ⟨(some 5), .mv (.t 12), none, 66560, 4, []⟩])
 (.seq (.reg [⟨(some 13), .mv (.t 1), none, 131072, 0, []⟩,
   ⟨(some 14), .mv (.t 5), none, 131328, 1, []⟩,
   ⟨(some 15), .faddr 0 (.t 2), none, 131584, 2, []⟩,
   ⟨(some 16), .load 1 false (.t 15), none, 131840, 3, []⟩,
   ⟨(some 17), .bin .mul (.t 14) (.t 16), none, 132096, 4, []⟩,
   ⟨(some 18), .mv (.t 1), none, 132352, 5, []⟩,
   ⟨(some 19), .len true (.t 18), none, 132608, 6, []⟩,
   ⟨(some 20), .bin .sub (.t 17) (.t 19), none, 132864, 7, []⟩,
   ⟨(some 21), .call 69 [(.k (.str ⟨#[0]⟩)), (.t 20)] true, none, 133120, 8, []⟩,
   ⟨(some 22), .bin .add (.t 13) (.t 21), none, 133376, 9, []⟩,
   ⟨(some 6), .mv (.t 22), none, 133632, 10, []⟩])
 (.seq (.reg [⟨(some 7), .nil0 true 1, none, 196608, 0, []⟩])
 (.seq (.seq (.reg [⟨(some 23), .faddr 0 (.t 2), none, 262144, 0, []⟩,
   ⟨(some 24), .load 1 false (.t 23), none, 262400, 1, []⟩,
   ⟨(some 25), .mv (.k (.int .i64 0)), none, 262656, 2, []⟩])
 (.block 0 (.loop [2, 5, 6, 7, 24, 25] [0, 1, 2, 3, 4, 5, 256, 196608, 590336, 590337, 590338, 590339]
  (.seq (.reg [⟨(some 26), .bin .lss (.t 25) (.t 24), none, 327680, 0, []⟩])
  (.seq (.cond (.t 26)
   (.skip)
   (.exit 0))
  (.seq (.block 1 (.seq (.reg [⟨(some 27), .mv (.t 25), none, 393216, 0, []⟩,
    ⟨(some 8), .mv (.t 27), none, 393472, 1, []⟩])
  (.reg [⟨(some 28), .mv (.t 7), none, 458752, 0, []⟩,
    ⟨(some 29), .mv (.t 6), none, 459008, 1, []⟩,
    ⟨(some 30), .mv (.t 8), none, 459264, 2, []⟩,
    ⟨(some 31), .mv (.t 5), none, 459520, 3, []⟩,
    ⟨(some 32), .bin .mul (.t 30) (.t 31), none, 459776, 4, []⟩,
    ⟨(some 33), .mv (.t 8), none, 460032, 5, []⟩,
    ⟨(some 34), .bin .add (.t 33) (.k (.int .i64 1)), none, 460288, 6, []⟩,
    ⟨(some 35), .mv (.t 5), none, 460544, 7, []⟩,
    ⟨(some 36), .bin .mul (.t 34) (.t 35), none, 460800, 8, []⟩,
    ⟨(some 37), .scut (.t 29) (some (.t 32)) (some (.t 36)), none, 461056, 9, []⟩,
    ⟨(some 38), .bslice true 1 [(.str ByteArray.empty)] 1 [(0, (.t 37))], none, 461312, 10, []⟩,
    ⟨(some 39), .app true 1 16 (.t 28) (.t 38), none, 461568, 11, []⟩,
    ⟨(some 7), .mv (.t 39), none, 461824, 12, []⟩])))
  (.reg [⟨(some 40), .bin .add (.t 25) (.k (.int .i64 1)), none, 524288, 0, []⟩,
    ⟨(some 25), .mv (.t 40), none, 524544, 1, []⟩])))))))
 (.seq (.reg [⟨(some 41), .load 2 true (.t 2), none, 589824, 0, []⟩,
   ⟨(some 42), .mv (.t 7), none, 590080, 1, []⟩,
   ⟨(some 43), .call 70 [(.t 41), (.t 42)] false, none, 590336, 2, []⟩,
   ⟨(some 4), .mv (.t 43), none, 590592, 3, []⟩])
 (.ret))))))⟩
/-- loop.example/g00849/spec.l00From -/
def F51 : F := ⟨1, 6, [.t 2],
 .seq (.reg [⟨(some 2), .mv (.k .undef), none, 0, 0, []⟩])
 (.seq (.reg [⟨(some 3), .mv (.t 0), none, 65536, 0, []⟩,
   ⟨(some 4), .build [(.nil true 1), (.int .i64 0), (.int .u64 0)] [(0, 1, (.t 3))], none, 65792, 1, []⟩,
   ⟨(some 5), .box (.t 4), none, 66048, 2, []⟩,
   ⟨(some 2), .mv (.t 5), none, 66304, 3, []⟩])
 (.ret))⟩
/-- (*loop.example/g00849/spec.l00Src).pick -/
def F52 : F := ⟨2, 20, [.t 4],
 .seq (.reg [⟨(some 4), .mv (.k (.int .i64 0)), none, 0, 0, []⟩])
 (.seq (.seq (.reg [⟨(some 6), .mv (.t 1), none, 65536, 0, []⟩,
   ⟨(some 7), .bin .leq (.t 6) (.k (.int .i64 1)), none, 65792, 1, []⟩])
 (.cond (.t 7)
  (.seq (.reg [⟨(some 4), .mv (.k (.int .i64 0)), none, 131072, 0, []⟩])
  (.ret))
  (.skip)))
 (.seq (.reg [⟨(some 8), .mv (.t 0), none, 196608, 0, []⟩,
   ⟨(some 9), .call 71 [(.t 8)] true, none, 196864, 1, []⟩,
   ⟨(some 5), .mv (.t 9), none, 197120, 2, []⟩])
 (.seq (.seq (.reg [⟨(some 10), .mv (.t 1), none, 262144, 0, []⟩,
   ⟨(some 11), .bin .gtr (.t 10) (.k (.int .i64 200)), none, 262400, 1, []⟩])
 (.cond (.t 11)
  (.reg [⟨(some 12), .mv (.t 5), none, 327680, 0, []⟩,
    ⟨(some 13), .bin .mul (.t 12) (.k (.int .i64 256)), none, 327936, 1, []⟩,
    ⟨(some 14), .mv (.t 0), none, 328192, 2, []⟩,
    ⟨(some 15), .call 71 [(.t 14)] true, none, 328448, 3, []⟩,
    ⟨(some 16), .bin .add (.t 13) (.t 15), none, 328704, 4, []⟩,
    ⟨(some 5), .mv (.t 16), none, 328960, 5, []⟩])
  (.skip)))
 (.seq (.reg [⟨(some 17), .mv (.t 5), none, 393216, 0, []⟩,
   ⟨(some 18), .mv (.t 1), none, 393472, 1, []⟩,
   ⟨(some 19), .bin .rem (.t 17) (.t 18), none, 393728, 2, []⟩,
   ⟨(some 4), .mv (.t 19), none, 393984, 3, []⟩])
 (.ret)))))⟩
/-- loop.example/g00849/spec.l03Matrix -/
def F53 : F := ⟨3, 32, [.cell 6 3 true],
 .seq (.reg [⟨(some 6), .alloc [(.int .i64 0), (.int .i64 0), (.nil true 1)], none, 0, 0, []⟩])
 (.seq (.reg [⟨(some 9), .mv (.t 1), none, 65536, 0, []⟩,
   ⟨(some 10), .mv (.t 2), none, 65792, 1, []⟩,
   ⟨(some 11), .build [(.int .i64 0), (.int .i64 0), (.nil true 1)] [(0, 1, (.t 9)), (1, 1, (.t 10))], none, 66048, 2, []⟩,
   ⟨(some 7), .alloc [(.int .i64 0), (.int .i64 0), (.nil true 1)], none, 66304, 3, []⟩,
   ⟨none, .store 3 (.t 7) (.t 11), none, 66560, 4, []⟩])
 (.seq (.seq (.reg [⟨(some 8), .mv (.k (.int .i64 0)), none, 131072, 0, []⟩])
 (.block 0 (.loop [0, 1, 2, 6, 7, 8] [0, 3, 66304, 66307, 66561, 66562, 66563, 393473, 393474, 393475]
  (.seq (.seq (.reg [⟨(some 12), .mv (.t 8), none, 196608, 0, []⟩,
    ⟨(some 13), .mv (.t 1), none, 196864, 1, []⟩,
    ⟨(some 14), .mv (.t 2), none, 197120, 2, []⟩,
    ⟨(some 15), .bin .mul (.t 13) (.t 14), none, 197376, 3, []⟩,
    ⟨(some 16), .bin .lss (.t 12) (.t 15), none, 197632, 4, []⟩])
  (.cond (.t 16)
   (.skip)
   (.exit 0)))
  (.seq (.block 1 (.reg [⟨(some 19), .faddr 2 (.t 7), none, 327680, 0, []⟩,
    ⟨(some 20), .load 1 false (.t 19), none, 327936, 1, [(.t 7)]⟩,
    ⟨(some 21), .mv (.t 0), none, 328192, 2, []⟩,
    ⟨(some 22), .mv (.t 0), none, 328448, 3, []⟩,
    ⟨(some 23), .call 71 [(.t 22)] true, none, 328704, 4, [(.t 7)]⟩,
    ⟨(some 24), .mv (.t 0), none, 328960, 5, []⟩,
    ⟨(some 25), .call 71 [(.t 24)] true, none, 329216, 6, [(.t 7)]⟩,
    ⟨(some 26), .bslice true 1 [(.int .i64 0)] 4 [(0, (.k (.int .i64 0))), (1, (.k (.int .i64 1))), (2, (.t 23)), (3, (.t 25))], none, 329472, 7, []⟩,
    ⟨(some 27), .call 72 [(.t 21), (.t 26)] true, none, 329728, 8, [(.t 7)]⟩,
    ⟨(some 28), .bslice true 1 [(.int .i64 0)] 1 [(0, (.t 27))], none, 329984, 9, []⟩,
    ⟨(some 29), .app true 1 8 (.t 20) (.t 28), none, 330240, 10, []⟩,
    ⟨(some 30), .faddr 2 (.t 7), none, 330496, 11, []⟩,
    ⟨none, .store 1 (.t 30) (.t 29), none, 330752, 12, []⟩]))
  (.reg [⟨(some 17), .mv (.t 8), none, 262144, 0, []⟩,
    ⟨(some 18), .bin .add (.t 17) (.k (.int .i64 1)), none, 262400, 1, []⟩,
    ⟨(some 8), .mv (.t 18), none, 262656, 2, []⟩]))))))
 (.seq (.reg [⟨(some 31), .load 3 true (.t 7), none, 393216, 0, []⟩,
   ⟨none, .store 3 (.t 6) (.t 31), none, 393472, 1, []⟩])
 (.ret))))⟩
/-- loop.example/g00849/spec.l03Inv -/
def F54 : F := ⟨1, 60, [.cell 2 3 true, .t 3],
 .seq (.reg [⟨(some 1), .box (.t 0), none, 0, 0, []⟩,
   ⟨(some 2), .alloc [(.int .i64 0), (.int .i64 0), (.nil true 1)], none, 256, 1, []⟩,
   ⟨(some 3), .mv (.k (.bool false)), none, 512, 2, []⟩])
 (.seq (.reg [⟨(some 9), .faddr 1 (.t 1), none, 65536, 0, []⟩,
   ⟨(some 10), .load 1 false (.t 9), none, 65792, 1, []⟩,
   ⟨(some 4), .mv (.t 10), none, 66048, 2, []⟩])
 (.seq (.reg [⟨(some 11), .faddr 2 (.t 1), none, 131072, 0, []⟩,
   ⟨(some 12), .load 1 false (.t 11), none, 131328, 1, []⟩,
   ⟨(some 13), .call 73 [(.t 12)] false, none, 131584, 2, []⟩,
   ⟨(some 5), .mv (.t 13), none, 131840, 3, []⟩])
 (.seq (.reg [⟨(some 14), .mv (.t 4), none, 196608, 0, []⟩,
   ⟨(some 15), .call 55 [(.t 14)] false, none, 196864, 1, []⟩,
   ⟨(some 6), .alloc [(.int .i64 0), (.int .i64 0), (.nil true 1)], none, 197120, 2, []⟩,
   ⟨none, .store 3 (.t 6) (.t 15), none, 197376, 3, []⟩])
 (.seq (.seq (.reg [⟨(some 7), .mv (.k (.int .i64 0)), none, 262144, 0, []⟩])
 (.block 0 (.loop [2, 4, 5, 6, 7] [0, 1, 2, 3, 4, 5, 256, 259, 131584, 131585, 131586, 131587, 196864, 196865, 196866, 196867, 197120, 197123, 197377, 197378, 197379, 983297, 983298, 983299]
  (.seq (.seq (.reg [⟨(some 16), .mv (.t 7), none, 327680, 0, []⟩,
    ⟨(some 17), .mv (.t 4), none, 327936, 1, []⟩,
    ⟨(some 18), .bin .lss (.t 16) (.t 17), none, 328192, 2, []⟩])
  (.cond (.t 18)
   (.skip)
   (.exit 0)))
  (.seq (.block 1 (.seq (.reg [⟨(some 21), .mv (.t 7), none, 458752, 0, []⟩,
    ⟨(some 8), .mv (.t 21), none, 459008, 1, []⟩])
  (.seq (.block 2 (.loop [2, 4, 5, 6, 7, 8] [0, 1, 2, 3, 4, 5, 256, 259, 131584, 131585, 131586, 131587, 196864, 196865, 196866, 196867, 197120, 197123, 197377, 197378, 197379, 721153, 721154, 721155, 983297, 983298, 983299]
   (.seq (.seq (.reg [⟨(some 22), .mv (.t 8), none, 524288, 0, []⟩,
     ⟨(some 23), .mv (.t 4), none, 524544, 1, []⟩,
     ⟨(some 24), .bin .lss (.t 22) (.t 23), none, 524800, 2, []⟩,
     ⟨(some 25), .mv (.t 24), none, 525056, 3, []⟩,
     ⟨(some 26), .mv (.t 5), (some (some 25, true)), 525312, 4, []⟩,
     ⟨(some 27), .mv (.t 8), (some (some 25, true)), 525568, 5, []⟩,
     ⟨(some 28), .mv (.t 4), (some (some 25, true)), 525824, 6, []⟩,
     ⟨(some 29), .bin .mul (.t 27) (.t 28), (some (some 25, true)), 526080, 7, []⟩,
     ⟨(some 30), .mv (.t 7), (some (some 25, true)), 526336, 8, []⟩,
     ⟨(some 31), .bin .add (.t 29) (.t 30), (some (some 25, true)), 526592, 9, []⟩,
     ⟨(some 32), .iaddr 1 (.t 26) (.t 31), (some (some 25, true)), 526848, 10, []⟩,
     ⟨(some 33), .load 1 false (.t 32), (some (some 25, true)), 527104, 11, []⟩,
     ⟨(some 34), .bin .eql (.t 33) (.k (.int .i64 0)), (some (some 25, true)), 527360, 12, []⟩,
     ⟨(some 35), .pick (.t 25) (.t 34) (.k (.bool false)), none, 527616, 13, []⟩])
   (.cond (.t 35)
    (.skip)
    (.exit 2)))
   (.block 3 (.reg [⟨(some 36), .mv (.t 8), none, 589824, 0, []⟩,
     ⟨(some 37), .bin .add (.t 36) (.k (.int .i64 1)), none, 590080, 1, []⟩,
     ⟨(some 8), .mv (.t 37), none, 590336, 2, []⟩])))))
  (.seq (.seq (.reg [⟨(some 38), .mv (.t 8), none, 655360, 0, []⟩,
    ⟨(some 39), .mv (.t 4), none, 655616, 1, []⟩,
    ⟨(some 40), .bin .eql (.t 38) (.t 39), none, 655872, 2, []⟩])
  (.cond (.t 40)
   (.seq (.reg [⟨(some 41), .build [(.int .i64 0), (.int .i64 0), (.nil true 1)] [], none, 720896, 0, []⟩,
     ⟨none, .store 3 (.t 2) (.t 41), none, 721152, 1, []⟩,
     ⟨(some 3), .mv (.k (.bool false)), none, 721408, 2, []⟩])
   (.ret))
   (.skip)))
  (.seq (.reg [⟨(some 42), .mv (.t 5), none, 786432, 0, []⟩,
    ⟨(some 43), .mv (.t 4), none, 786688, 1, []⟩,
    ⟨(some 44), .mv (.t 7), none, 786944, 2, []⟩,
    ⟨(some 45), .mv (.t 8), none, 787200, 3, []⟩,
    ⟨(some 46), .call 74 [(.t 42), (.t 43), (.t 44), (.t 45)] true, none, 787456, 4, []⟩])
  (.seq (.reg [⟨(some 47), .faddr 2 (.t 6), none, 851968, 0, []⟩,
    ⟨(some 48), .load 1 false (.t 47), none, 852224, 1, []⟩,
    ⟨(some 49), .mv (.t 4), none, 852480, 2, []⟩,
    ⟨(some 50), .mv (.t 7), none, 852736, 3, []⟩,
    ⟨(some 51), .mv (.t 8), none, 852992, 4, []⟩,
    ⟨(some 52), .call 74 [(.t 48), (.t 49), (.t 50), (.t 51)] true, none, 853248, 5, []⟩])
  (.reg [⟨(some 53), .mv (.t 5), none, 917504, 0, []⟩,
    ⟨(some 54), .faddr 2 (.t 6), none, 917760, 1, []⟩,
    ⟨(some 55), .load 1 false (.t 54), none, 918016, 2, []⟩,
    ⟨(some 56), .mv (.t 4), none, 918272, 3, []⟩,
    ⟨(some 57), .mv (.t 7), none, 918528, 4, []⟩,
    ⟨(some 58), .call 75 [(.t 53), (.t 55), (.t 56), (.t 57)] true, none, 918784, 5, []⟩])))))))
  (.reg [⟨(some 19), .mv (.t 7), none, 393216, 0, []⟩,
    ⟨(some 20), .bin .add (.t 19) (.k (.int .i64 1)), none, 393472, 1, []⟩,
    ⟨(some 7), .mv (.t 20), none, 393728, 2, []⟩]))))))
 (.seq (.reg [⟨(some 59), .load 3 true (.t 6), none, 983040, 0, []⟩,
   ⟨none, .store 3 (.t 2) (.t 59), none, 983296, 1, []⟩,
   ⟨(some 3), .mv (.k (.bool true)), none, 983552, 2, []⟩])
 (.ret))))))⟩
/-- loop.example/g00849/spec.l03Unit -/
def F55 : F := ⟨1, 31, [.cell 2 3 true],
 .seq (.reg [⟨(some 2), .alloc [(.int .i64 0), (.int .i64 0), (.nil true 1)], none, 0, 0, []⟩])
 (.seq (.reg [⟨(some 5), .mv (.t 0), none, 65536, 0, []⟩,
   ⟨(some 6), .mv (.t 0), none, 65792, 1, []⟩,
   ⟨(some 7), .build [(.int .i64 0), (.int .i64 0), (.nil true 1)] [(0, 1, (.t 5)), (1, 1, (.t 6))], none, 66048, 2, []⟩,
   ⟨(some 3), .alloc [(.int .i64 0), (.int .i64 0), (.nil true 1)], none, 66304, 3, []⟩,
   ⟨none, .store 3 (.t 3) (.t 7), none, 66560, 4, []⟩])
 (.seq (.seq (.reg [⟨(some 4), .mv (.k (.int .i64 0)), none, 131072, 0, []⟩])
 (.block 0 (.loop [0, 2, 3, 4] [0, 3, 66304, 66307, 66561, 66562, 66563, 524545, 524546, 524547]
  (.seq (.seq (.reg [⟨(some 8), .mv (.t 4), none, 196608, 0, []⟩,
    ⟨(some 9), .mv (.t 0), none, 196864, 1, []⟩,
    ⟨(some 10), .mv (.t 0), none, 197120, 2, []⟩,
    ⟨(some 11), .bin .mul (.t 9) (.t 10), none, 197376, 3, []⟩,
    ⟨(some 12), .bin .lss (.t 8) (.t 11), none, 197632, 4, []⟩])
  (.cond (.t 12)
   (.skip)
   (.exit 0)))
  (.seq (.block 1 (.seq (.reg [⟨(some 15), .mv (.t 4), none, 327680, 0, []⟩,
    ⟨(some 16), .mv (.t 0), none, 327936, 1, []⟩,
    ⟨(some 17), .bin .add (.t 16) (.k (.int .i64 1)), none, 328192, 2, []⟩,
    ⟨(some 18), .bin .rem (.t 15) (.t 17), none, 328448, 3, []⟩,
    ⟨(some 19), .bin .eql (.t 18) (.k (.int .i64 0)), none, 328704, 4, []⟩])
  (.cond (.t 19)
   (.reg [⟨(some 20), .faddr 2 (.t 3), none, 393216, 0, []⟩,
     ⟨(some 21), .load 1 false (.t 20), none, 393472, 1, []⟩,
     ⟨(some 22), .bslice true 1 [(.int .i64 0)] 1 [(0, (.k (.int .i64 1)))], none, 393728, 2, []⟩,
     ⟨(some 23), .app true 1 8 (.t 21) (.t 22), none, 393984, 3, []⟩,
     ⟨(some 24), .faddr 2 (.t 3), none, 394240, 4, []⟩,
     ⟨none, .store 1 (.t 24) (.t 23), none, 394496, 5, []⟩])
   (.reg [⟨(some 25), .faddr 2 (.t 3), none, 458752, 0, []⟩,
     ⟨(some 26), .load 1 false (.t 25), none, 459008, 1, []⟩,
     ⟨(some 27), .bslice true 1 [(.int .i64 0)] 1 [(0, (.k (.int .i64 0)))], none, 459264, 2, []⟩,
     ⟨(some 28), .app true 1 8 (.t 26) (.t 27), none, 459520, 3, []⟩,
     ⟨(some 29), .faddr 2 (.t 3), none, 459776, 4, []⟩,
     ⟨none, .store 1 (.t 29) (.t 28), none, 460032, 5, []⟩]))))
  (.reg [⟨(some 13), .mv (.t 4), none, 262144, 0, []⟩,
    ⟨(some 14), .bin .add (.t 13) (.k (.int .i64 1)), none, 262400, 1, []⟩,
    ⟨(some 4), .mv (.t 14), none, 262656, 2, []⟩]))))))
 (.seq (.reg [⟨(some 30), .load 3 true (.t 3), none, 524288, 0, []⟩,
   ⟨none, .store 3 (.t 2) (.t 30), none, 524544, 1, []⟩])
 (.ret))))⟩
/-- loop.example/g00849/spec.l02Times -/
def F56 : F := ⟨2, 26, [.t 4],
 .seq (.reg [⟨(some 4), .mv (.k (.int .i64 0)), none, 0, 0, []⟩])
 (.seq (.reg [⟨(some 5), .mv (.k (.int .i64 0)), none, 65536, 0, []⟩])
 (.seq (.seq (.reg [⟨(some 6), .mv (.k (.int .i64 0)), none, 131072, 0, []⟩])
 (.block 0 (.loop [0, 1, 5, 6] []
  (.seq (.seq (.reg [⟨(some 7), .mv (.t 6), none, 196608, 0, []⟩,
    ⟨(some 8), .bin .lss (.t 7) (.k (.int .i64 8)), none, 196864, 1, []⟩])
  (.cond (.t 8)
   (.skip)
   (.exit 0)))
  (.seq (.block 1 (.seq (.seq (.reg [⟨(some 11), .mv (.t 1), none, 327680, 0, []⟩,
    ⟨(some 12), .bin .and (.t 11) (.k (.int .i64 1)), none, 327936, 1, []⟩,
    ⟨(some 13), .bin .neq (.t 12) (.k (.int .i64 0)), none, 328192, 2, []⟩])
  (.cond (.t 13)
   (.reg [⟨(some 14), .mv (.t 5), none, 393216, 0, []⟩,
     ⟨(some 15), .mv (.t 0), none, 393472, 1, []⟩,
     ⟨(some 16), .bin .xor (.t 14) (.t 15), none, 393728, 2, []⟩,
     ⟨(some 5), .mv (.t 16), none, 393984, 3, []⟩])
   (.skip)))
  (.seq (.reg [⟨(some 17), .mv (.t 1), none, 458752, 0, []⟩,
    ⟨(some 18), .bin .shr (.t 17) (.k (.int .u64 1)), none, 459008, 1, []⟩,
    ⟨(some 1), .mv (.t 18), none, 459264, 2, []⟩])
  (.seq (.reg [⟨(some 19), .mv (.t 0), none, 524288, 0, []⟩,
    ⟨(some 20), .bin .shl (.t 19) (.k (.int .u64 1)), none, 524544, 1, []⟩,
    ⟨(some 0), .mv (.t 20), none, 524800, 2, []⟩])
  (.seq (.reg [⟨(some 21), .mv (.t 0), none, 589824, 0, []⟩,
    ⟨(some 22), .bin .gtr (.t 21) (.k (.int .i64 255)), none, 590080, 1, []⟩])
  (.cond (.t 22)
   (.reg [⟨(some 23), .mv (.t 0), none, 655360, 0, []⟩,
     ⟨(some 24), .bin .xor (.t 23) (.k (.int .i64 285)), none, 655616, 1, []⟩,
     ⟨(some 0), .mv (.t 24), none, 655872, 2, []⟩])
   (.skip)))))))
  (.reg [⟨(some 9), .mv (.t 6), none, 262144, 0, []⟩,
    ⟨(some 10), .bin .add (.t 9) (.k (.int .i64 1)), none, 262400, 1, []⟩,
    ⟨(some 6), .mv (.t 10), none, 262656, 2, []⟩]))))))
 (.seq (.reg [⟨(some 25), .mv (.t 5), none, 720896, 0, []⟩,
   ⟨(some 4), .mv (.t 25), none, 721152, 1, []⟩])
 (.ret))))⟩
/-- loop.example/g00849/spec.l02Inv -/
def F57 : F := ⟨1, 5, [.t 2],
 .seq (.reg [⟨(some 2), .mv (.k (.int .i64 0)), none, 0, 0, []⟩])
 (.seq (.reg [⟨(some 3), .mv (.t 0), none, 65536, 0, []⟩,
   ⟨(some 4), .call 76 [(.t 3), (.k (.int .i64 254))] true, none, 65792, 1, []⟩,
   ⟨(some 2), .mv (.t 4), none, 66048, 2, []⟩])
 (.ret))⟩
/-- loop.example/g00849/impl.inverse -/
def F58 : F := ⟨1, 5, [.t 2],
 .seq (.reg [⟨(some 2), .mv (.k (.int .i64 0)), none, 0, 0, []⟩])
 (.seq (.reg [⟨(some 3), .mv (.t 0), none, 65536, 0, []⟩,
   ⟨(some 4), .call 77 [(.t 3), (.k (.int .i64 254))] true, none, 65792, 1, []⟩,
   ⟨(some 2), .mv (.t 4), none, 66048, 2, []⟩])
 (.ret))⟩
/-- loop.example/g00849/spec.l00In -/
def F59 : F := ⟨3, 15, [.t 6],
 .seq (.reg [⟨(some 6), .mv (.k (.bool false)), none, 0, 0, []⟩])
 (.seq (.reg [⟨(some 7), .mv (.t 0), none, 65536, 0, []⟩,
   ⟨(some 8), .mv (.t 1), none, 65792, 1, []⟩,
   ⟨(some 9), .bin .geq (.t 7) (.t 8), none, 66048, 2, []⟩,
   ⟨(some 10), .mv (.t 9), none, 66304, 3, []⟩,
   ⟨(some 11), .mv (.t 0), (some (some 10, true)), 66560, 4, []⟩,
   ⟨(some 12), .mv (.t 2), (some (some 10, true)), 66816, 5, []⟩,
   ⟨(some 13), .bin .leq (.t 11) (.t 12), (some (some 10, true)), 67072, 6, []⟩,
   ⟨(some 14), .pick (.t 10) (.t 13) (.k (.bool false)), none, 67328, 7, []⟩,
   ⟨(some 6), .mv (.t 14), none, 67584, 8, []⟩])
 (.ret))⟩
/-- loop.example/g00849/spec.l02Byte -/
def F60 : F := ⟨1, 5, [.t 2],
 .seq (.reg [⟨(some 2), .mv (.k (.bool false)), none, 0, 0, []⟩])
 (.seq (.reg [⟨(some 3), .mv (.t 0), none, 65536, 0, []⟩,
   ⟨(some 4), .call 59 [(.t 3), (.k (.int .i64 0)), (.k (.int .i64 255))] true, none, 65792, 1, []⟩,
   ⟨(some 2), .mv (.t 4), none, 66048, 2, []⟩])
 (.ret))⟩
/-- loop.example/g00849/impl.MatrixOk$1 -/
def F61 : F := ⟨1, 6, [.t 2],
 .seq (.reg [⟨(some 2), .mv (.k (.bool false)), none, 0, 0, []⟩])
 (.seq (.reg [⟨(some 3), .mv (.t 0), none, 65536, 0, []⟩,
   ⟨(some 4), .call 62 [(.t 3)] true, none, 65792, 1, []⟩,
   ⟨(some 5), .not (.t 4), none, 66048, 2, []⟩,
   ⟨(some 2), .mv (.t 5), none, 66304, 3, []⟩])
 (.ret))⟩
/-- loop.example/g00849/impl.isElement -/
def F62 : F := ⟨1, 5, [.t 2],
 .seq (.reg [⟨(some 2), .mv (.k (.bool false)), none, 0, 0, []⟩])
 (.seq (.reg [⟨(some 3), .mv (.t 0), none, 65536, 0, []⟩,
   ⟨(some 4), .call 30 [(.t 3), (.k (.int .i64 0)), (.k (.int .i64 255))] true, none, 65792, 1, []⟩,
   ⟨(some 2), .mv (.t 4), none, 66048, 2, []⟩])
 (.ret))⟩
/-- loop.example/g00849/impl.double -/
def F63 : F := ⟨1, 10, [.t 2],
 .seq (.reg [⟨(some 2), .mv (.k (.int .i64 0)), none, 0, 0, []⟩])
 (.seq (.reg [⟨(some 3), .mv (.t 0), none, 65536, 0, []⟩,
   ⟨(some 4), .bin .mul (.t 3) (.k (.int .i64 2)), none, 65792, 1, []⟩,
   ⟨(some 0), .mv (.t 4), none, 66048, 2, []⟩])
 (.seq (.seq (.reg [⟨(some 5), .mv (.t 0), none, 131072, 0, []⟩,
   ⟨(some 6), .bin .gtr (.t 5) (.k (.int .i64 255)), none, 131328, 1, []⟩])
 (.cond (.t 6)
  (.reg [⟨(some 7), .mv (.t 0), none, 196608, 0, []⟩,
    ⟨(some 8), .bin .xor (.t 7) (.k (.int .i64 285)), none, 196864, 1, []⟩,
    ⟨(some 0), .mv (.t 8), none, 197120, 2, []⟩])
  (.skip)))
 (.seq (.reg [⟨(some 9), .mv (.t 0), none, 262144, 0, []⟩,
   ⟨(some 2), .mv (.t 9), none, 262400, 1, []⟩])
 (.ret))))⟩
/-- slices.IndexFunc[[]int64,int64] -/
def F64 : F := ⟨2, 19, [.t 4],
 .seq (.reg [⟨(some 4), .mv (.k (.int .i64 0)), none, 0, 0, []⟩])
 (.seq (.seq (.reg [⟨(some 6), .mv (.t 0), none, 65536, 0, []⟩,
   ⟨(some 7), .len false (.t 6), none, 65792, 1, []⟩,
   ⟨(some 8), .mv (.k (.int .i64 0)), none, 66048, 2, []⟩])
 (.block 0 (.loop [0, 1, 7, 8] []
  (.seq (.reg [⟨(some 9), .bin .lss (.t 8) (.t 7), none, 131072, 0, []⟩])
  (.seq (.cond (.t 9)
   (.skip)
   (.exit 0))
  (.seq (.block 1 (.seq (.reg [⟨(some 10), .mv (.t 8), none, 196608, 0, []⟩,
    ⟨(some 5), .mv (.t 10), none, 196864, 1, []⟩])
  (.seq (.reg [⟨(some 11), .mv (.t 1), none, 262144, 0, []⟩,
    ⟨(some 12), .mv (.t 0), none, 262400, 1, []⟩,
    ⟨(some 13), .mv (.t 5), none, 262656, 2, []⟩,
    ⟨(some 14), .iaddr 1 (.t 12) (.t 13), none, 262912, 3, []⟩,
    ⟨(some 15), .load 1 false (.t 14), none, 263168, 4, []⟩,
    ⟨(some 16), .callv (.t 11) [(.t 15)] true, none, 263424, 5, []⟩])
  (.cond (.t 16)
   (.seq (.reg [⟨(some 17), .mv (.t 5), none, 327680, 0, []⟩,
     ⟨(some 4), .mv (.t 17), none, 327936, 1, []⟩])
   (.ret))
   (.skip)))))
  (.reg [⟨(some 18), .bin .add (.t 8) (.k (.int .i64 1)), none, 393216, 0, []⟩,
    ⟨(some 8), .mv (.t 18), none, 393472, 1, []⟩])))))))
 (.seq (.reg [⟨(some 4), .mv (.k (.int .i64 (-1))), none, 458752, 0, []⟩])
 (.ret)))⟩
/-- slices.Clone[[]int64,int64] -/
def F65 : F := ⟨1, 8, [.t 2],
 .seq (.reg [⟨(some 2), .nil0 true 1, none, 0, 0, []⟩])
 (.seq (.seq (.reg [⟨(some 3), .mv (.t 0), none, 65536, 0, []⟩])
 (.ifnil false 4 (.t 3)
  (.seq (.reg [⟨(some 2), .nil0 true 1, none, 131072, 0, []⟩])
  (.ret))
  (.skip)))
 (.seq (.reg [⟨(some 5), .bslice true 1 [(.int .i64 0)] 0 [], none, 196608, 0, []⟩,
   ⟨(some 6), .mv (.t 0), none, 196864, 1, []⟩,
   ⟨(some 7), .app true 1 8 (.t 5) (.t 6), none, 197120, 2, []⟩,
   ⟨(some 2), .mv (.t 7), none, 197376, 3, []⟩])
 (.ret)))⟩
/-- loop.example/g00849/impl.addTo -/
def F66 : F := ⟨3, 25, [],
 .seq (.reg [⟨(some 8), .mv (.t 1), none, 0, 0, []⟩,
   ⟨(some 9), .len false (.t 8), none, 256, 1, []⟩,
   ⟨(some 10), .mv (.k (.int .i64 0)), none, 512, 2, []⟩])
 (.block 0 (.loop [0, 2, 8, 9, 10] []
  (.seq (.reg [⟨(some 11), .bin .lss (.t 10) (.t 9), none, 65536, 0, []⟩])
  (.seq (.cond (.t 11)
   (.skip)
   (.exit 0))
  (.seq (.block 1 (.seq (.reg [⟨(some 12), .mv (.t 10), none, 131072, 0, []⟩,
    ⟨(some 13), .iaddr 1 (.t 8) (.t 10), none, 131328, 1, []⟩,
    ⟨(some 14), .load 1 false (.t 13), none, 131584, 2, []⟩,
    ⟨(some 6), .mv (.t 12), none, 131840, 3, []⟩,
    ⟨(some 7), .mv (.t 14), none, 132096, 4, []⟩])
  (.reg [⟨(some 15), .mv (.t 0), none, 196608, 0, []⟩,
    ⟨(some 16), .mv (.t 6), none, 196864, 1, []⟩,
    ⟨(some 17), .iaddr 1 (.t 15) (.t 16), none, 197120, 2, []⟩,
    ⟨(some 18), .load 1 false (.t 17), none, 197376, 3, []⟩,
    ⟨(some 19), .mv (.t 2), none, 197632, 4, []⟩,
    ⟨(some 20), .mv (.t 7), none, 197888, 5, []⟩,
    ⟨(some 21), .call 41 [(.t 19), (.t 20)] true, none, 198144, 6, []⟩,
    ⟨(some 22), .bin .xor (.t 18) (.t 21), none, 198400, 7, []⟩,
    ⟨(some 23), .iaddr 1 (.t 15) (.t 16), none, 198656, 8, []⟩,
    ⟨none, .store 1 (.t 23) (.t 22), none, 198912, 9, []⟩])))
  (.reg [⟨(some 24), .bin .add (.t 10) (.k (.int .i64 1)), none, 262144, 0, []⟩,
    ⟨(some 10), .mv (.t 24), none, 262400, 1, []⟩]))))))⟩
/-- (*loop.example/g00849/spec.l00Src).word -/
def F67 : F := ⟨2, 23, [.t 4],
 .seq (.reg [⟨(some 4), .mv (.k (.str ByteArray.empty)), none, 0, 0, []⟩])
 (.seq (.reg [⟨(some 7), .bslice true 1 [(.int .u8 0)] 0 [], none, 65536, 0, []⟩,
   ⟨(some 5), .mv (.t 7), none, 65792, 1, []⟩])
 (.seq (.seq (.reg [⟨(some 8), .mv (.t 0), none, 131072, 0, []⟩,
   ⟨(some 9), .mv (.t 1), none, 131328, 1, []⟩,
   ⟨(some 10), .call 52 [(.t 8), (.t 9)] true, none, 131584, 2, []⟩,
   ⟨(some 6), .mv (.t 10), none, 131840, 3, []⟩])
 (.block 0 (.loop [0, 5, 6] [65536]
  (.seq (.seq (.reg [⟨(some 11), .mv (.t 6), none, 196608, 0, []⟩,
    ⟨(some 12), .bin .gtr (.t 11) (.k (.int .i64 0)), none, 196864, 1, []⟩])
  (.cond (.t 12)
   (.skip)
   (.exit 0)))
  (.seq (.block 1 (.reg [⟨(some 15), .mv (.t 5), none, 327680, 0, []⟩,
    ⟨(some 16), .mv (.t 0), none, 327936, 1, []⟩,
    ⟨(some 17), .call 71 [(.t 16)] true, none, 328192, 2, []⟩,
    ⟨(some 18), .conv .u8 (.t 17), none, 328448, 3, []⟩,
    ⟨(some 19), .bslice true 1 [(.int .u8 0)] 1 [(0, (.t 18))], none, 328704, 4, []⟩,
    ⟨(some 20), .app true 1 1 (.t 15) (.t 19), none, 328960, 5, []⟩,
    ⟨(some 5), .mv (.t 20), none, 329216, 6, []⟩]))
  (.reg [⟨(some 13), .mv (.t 6), none, 262144, 0, []⟩,
    ⟨(some 14), .bin .sub (.t 13) (.k (.int .i64 1)), none, 262400, 1, []⟩,
    ⟨(some 6), .mv (.t 14), none, 262656, 2, []⟩]))))))
 (.seq (.reg [⟨(some 21), .mv (.t 5), none, 393216, 0, []⟩,
   ⟨(some 22), .b2s (.t 21), none, 393472, 1, []⟩,
   ⟨(some 4), .mv (.t 22), none, 393728, 2, []⟩])
 (.ret))))⟩
/-- (loop.example/g00849/impl.Code).piece -/
def F68 : F := ⟨2, 13, [.t 4],
 .seq (.reg [⟨(some 2), .box (.t 0), none, 0, 0, []⟩,
   ⟨(some 4), .mv (.k (.int .i64 0)), none, 256, 1, []⟩])
 (.seq (.reg [⟨(some 5), .mv (.t 1), none, 65536, 0, []⟩,
   ⟨(some 6), .faddr 0 (.t 2), none, 65792, 1, []⟩,
   ⟨(some 7), .load 1 false (.t 6), none, 66048, 2, []⟩,
   ⟨(some 8), .bin .add (.t 5) (.t 7), none, 66304, 3, []⟩,
   ⟨(some 9), .bin .sub (.t 8) (.k (.int .i64 1)), none, 66560, 4, []⟩,
   ⟨(some 10), .faddr 0 (.t 2), none, 66816, 5, []⟩,
   ⟨(some 11), .load 1 false (.t 10), none, 67072, 6, []⟩,
   ⟨(some 12), .bin .quo (.t 9) (.t 11), none, 67328, 7, []⟩,
   ⟨(some 4), .mv (.t 12), none, 67584, 8, []⟩])
 (.ret))⟩
/-- (loop.example/g00849/impl.Code).encoded -/
def F70 : F := ⟨2, 12, [.t 4],
 .seq (.reg [⟨(some 2), .box (.t 0), none, 0, 0, []⟩,
   ⟨(some 4), .nil0 true 1, none, 256, 1, []⟩])
 (.seq (.reg [⟨(some 5), .faddr 0 (.t 2), none, 65536, 0, []⟩,
   ⟨(some 6), .load 1 false (.t 5), none, 65792, 1, []⟩,
   ⟨(some 7), .faddr 1 (.t 2), none, 66048, 2, []⟩,
   ⟨(some 8), .load 1 false (.t 7), none, 66304, 3, []⟩,
   ⟨(some 9), .call 31 [(.t 6), (.t 8)] false, none, 66560, 4, []⟩,
   ⟨(some 10), .mv (.t 1), none, 66816, 5, []⟩,
   ⟨(some 11), .call 84 [(.t 9), (.t 10)] false, none, 67072, 6, []⟩,
   ⟨(some 4), .mv (.t 11), none, 67328, 7, []⟩])
 (.ret))⟩
/-- (*loop.example/g00849/spec.l00Src).next -/
def F71 : F := ⟨1, 62, [.t 2],
 .seq (.reg [⟨(some 2), .mv (.k (.int .i64 0)), none, 0, 0, []⟩])
 (.seq (.reg [⟨(some 3), .mv (.k (.int .i64 0)), none, 65536, 0, []⟩])
 (.seq (.seq (.reg [⟨(some 4), .mv (.t 0), none, 131072, 0, []⟩,
   ⟨(some 5), .nilck (.t 4), none, 131328, 1, []⟩,
   ⟨(some 6), .faddr 1 (.t 5), none, 131584, 2, []⟩,
   ⟨(some 7), .load 1 false (.t 6), none, 131840, 3, []⟩,
   ⟨(some 8), .mv (.t 0), none, 132096, 4, []⟩,
   ⟨(some 9), .nilck (.t 8), none, 132352, 5, []⟩,
   ⟨(some 10), .faddr 0 (.t 9), none, 132608, 6, []⟩,
   ⟨(some 11), .load 1 false (.t 10), none, 132864, 7, []⟩,
   ⟨(some 12), .len false (.t 11), none, 133120, 8, []⟩,
   ⟨(some 13), .bin .lss (.t 7) (.t 12), none, 133376, 9, []⟩])
 (.cond (.t 13)
  (.reg [⟨(some 14), .mv (.t 0), none, 196608, 0, []⟩,
    ⟨(some 15), .nilck (.t 14), none, 196864, 1, []⟩,
    ⟨(some 16), .faddr 0 (.t 15), none, 197120, 2, []⟩,
    ⟨(some 17), .load 1 false (.t 16), none, 197376, 3, []⟩,
    ⟨(some 18), .mv (.t 0), none, 197632, 4, []⟩,
    ⟨(some 19), .nilck (.t 18), none, 197888, 5, []⟩,
    ⟨(some 20), .faddr 1 (.t 19), none, 198144, 6, []⟩,
    ⟨(some 21), .load 1 false (.t 20), none, 198400, 7, []⟩,
    ⟨(some 22), .iaddr 1 (.t 17) (.t 21), none, 198656, 8, []⟩,
    ⟨(some 23), .load 1 false (.t 22), none, 198912, 9, []⟩,
    ⟨(some 24), .conv .i64 (.t 23), none, 199168, 10, []⟩,
    ⟨(some 3), .mv (.t 24), none, 199424, 11, []⟩])
  (.skip)))
 (.seq (.reg [⟨(some 25), .mv (.t 0), none, 262144, 0, []⟩,
   ⟨(some 26), .nilck (.t 25), none, 262400, 1, []⟩,
   ⟨(some 27), .faddr 1 (.t 26), none, 262656, 2, []⟩,
   ⟨(some 28), .load 1 false (.t 27), none, 262912, 3, []⟩,
   ⟨(some 29), .bin .add (.t 28) (.k (.int .i64 1)), none, 263168, 4, []⟩,
   ⟨(some 30), .nilck (.t 25), none, 263424, 5, []⟩,
   ⟨(some 31), .faddr 1 (.t 30), none, 263680, 6, []⟩,
   ⟨none, .store 1 (.t 31) (.t 29), none, 263936, 7, []⟩])
 (.seq (.reg [⟨(some 32), .mv (.t 0), none, 327680, 0, []⟩,
   ⟨(some 33), .mv (.t 0), none, 327936, 1, []⟩,
   ⟨(some 34), .nilck (.t 33), none, 328192, 2, []⟩,
   ⟨(some 35), .faddr 2 (.t 34), none, 328448, 3, []⟩,
   ⟨(some 36), .load 1 false (.t 35), none, 328704, 4, []⟩,
   ⟨(some 37), .bin .mul (.t 36) (.k (.int .u64 6364136223846793005)), none, 328960, 5, []⟩,
   ⟨(some 38), .mv (.t 3), none, 329216, 6, []⟩,
   ⟨(some 39), .conv .u64 (.t 38), none, 329472, 7, []⟩,
   ⟨(some 40), .bin .add (.t 37) (.t 39), none, 329728, 8, []⟩,
   ⟨(some 41), .bin .add (.t 40) (.k (.int .u64 1442695040888963407)), none, 329984, 9, []⟩,
   ⟨(some 42), .nilck (.t 32), none, 330240, 10, []⟩,
   ⟨(some 43), .faddr 2 (.t 42), none, 330496, 11, []⟩,
   ⟨none, .store 1 (.t 43) (.t 41), none, 330752, 12, []⟩])
 (.seq (.seq (.reg [⟨(some 44), .mv (.t 0), none, 393216, 0, []⟩,
   ⟨(some 45), .nilck (.t 44), none, 393472, 1, []⟩,
   ⟨(some 46), .faddr 1 (.t 45), none, 393728, 2, []⟩,
   ⟨(some 47), .load 1 false (.t 46), none, 393984, 3, []⟩,
   ⟨(some 48), .mv (.t 0), none, 394240, 4, []⟩,
   ⟨(some 49), .nilck (.t 48), none, 394496, 5, []⟩,
   ⟨(some 50), .faddr 0 (.t 49), none, 394752, 6, []⟩,
   ⟨(some 51), .load 1 false (.t 50), none, 395008, 7, []⟩,
   ⟨(some 52), .len false (.t 51), none, 395264, 8, []⟩,
   ⟨(some 53), .bin .leq (.t 47) (.t 52), none, 395520, 9, []⟩])
 (.cond (.t 53)
  (.seq (.reg [⟨(some 54), .mv (.t 3), none, 458752, 0, []⟩,
    ⟨(some 2), .mv (.t 54), none, 459008, 1, []⟩])
  (.ret))
  (.skip)))
 (.seq (.reg [⟨(some 55), .mv (.t 0), none, 524288, 0, []⟩,
   ⟨(some 56), .nilck (.t 55), none, 524544, 1, []⟩,
   ⟨(some 57), .faddr 2 (.t 56), none, 524800, 2, []⟩,
   ⟨(some 58), .load 1 false (.t 57), none, 525056, 3, []⟩,
   ⟨(some 59), .bin .shr (.t 58) (.k (.int .u64 40)), none, 525312, 4, []⟩,
   ⟨(some 60), .bin .and (.t 59) (.k (.int .u64 255)), none, 525568, 5, []⟩,
   ⟨(some 61), .conv .i64 (.t 60), none, 525824, 6, []⟩,
   ⟨(some 2), .mv (.t 61), none, 526080, 7, []⟩])
 (.ret)))))))⟩
/-- (*loop.example/g00849/spec.l00Src).among -/
def F72 : F := ⟨2, 12, [.t 4],
 .seq (.reg [⟨(some 4), .mv (.k (.int .i64 0)), none, 0, 0, []⟩])
 (.seq (.reg [⟨(some 5), .mv (.t 1), none, 65536, 0, []⟩,
   ⟨(some 6), .mv (.t 0), none, 65792, 1, []⟩,
   ⟨(some 7), .mv (.t 1), none, 66048, 2, []⟩,
   ⟨(some 8), .len false (.t 7), none, 66304, 3, []⟩,
   ⟨(some 9), .call 52 [(.t 6), (.t 8)] true, none, 66560, 4, []⟩,
   ⟨(some 10), .iaddr 1 (.t 5) (.t 9), none, 66816, 5, []⟩,
   ⟨(some 11), .load 1 false (.t 10), none, 67072, 6, []⟩,
   ⟨(some 4), .mv (.t 11), none, 67328, 7, []⟩])
 (.ret))⟩
/-- loop.example/g00849/spec.l00Own -/
def F73 : F := ⟨1, 6, [.t 2],
 .seq (.reg [⟨(some 2), .nil0 true 1, none, 0, 0, []⟩])
 (.seq (.reg [⟨(some 3), .bslice true 1 [(.int .i64 0)] 0 [], none, 65536, 0, []⟩,
   ⟨(some 4), .mv (.t 0), none, 65792, 1, []⟩,
   ⟨(some 5), .app true 1 8 (.t 3) (.t 4), none, 66048, 2, []⟩,
   ⟨(some 2), .mv (.t 5), none, 66304, 3, []⟩])
 (.ret))⟩
/-- loop.example/g00849/spec.l03Swap -/
def F74 : F := ⟨4, 46, [],
 .seq (.reg [⟨(some 8), .mv (.k (.int .i64 0)), none, 0, 0, []⟩])
 (.block 0 (.loop [0, 1, 2, 3, 8] []
  (.seq (.seq (.reg [⟨(some 10), .mv (.t 8), none, 65536, 0, []⟩,
    ⟨(some 11), .mv (.t 1), none, 65792, 1, []⟩,
    ⟨(some 12), .bin .lss (.t 10) (.t 11), none, 66048, 2, []⟩])
  (.cond (.t 12)
   (.skip)
   (.exit 0)))
  (.seq (.block 1 (.seq (.reg [⟨(some 15), .mv (.t 0), none, 196608, 0, []⟩,
    ⟨(some 16), .mv (.t 2), none, 196864, 1, []⟩,
    ⟨(some 17), .mv (.t 1), none, 197120, 2, []⟩,
    ⟨(some 18), .bin .mul (.t 16) (.t 17), none, 197376, 3, []⟩,
    ⟨(some 19), .mv (.t 8), none, 197632, 4, []⟩,
    ⟨(some 20), .bin .add (.t 18) (.t 19), none, 197888, 5, []⟩,
    ⟨(some 21), .iaddr 1 (.t 15) (.t 20), none, 198144, 6, []⟩,
    ⟨(some 22), .load 1 false (.t 21), none, 198400, 7, []⟩,
    ⟨(some 9), .mv (.t 22), none, 198656, 8, []⟩])
  (.seq (.reg [⟨(some 23), .mv (.t 0), none, 262144, 0, []⟩,
    ⟨(some 24), .mv (.t 2), none, 262400, 1, []⟩,
    ⟨(some 25), .mv (.t 1), none, 262656, 2, []⟩,
    ⟨(some 26), .bin .mul (.t 24) (.t 25), none, 262912, 3, []⟩,
    ⟨(some 27), .mv (.t 8), none, 263168, 4, []⟩,
    ⟨(some 28), .bin .add (.t 26) (.t 27), none, 263424, 5, []⟩,
    ⟨(some 29), .mv (.t 0), none, 263680, 6, []⟩,
    ⟨(some 30), .mv (.t 3), none, 263936, 7, []⟩,
    ⟨(some 31), .mv (.t 1), none, 264192, 8, []⟩,
    ⟨(some 32), .bin .mul (.t 30) (.t 31), none, 264448, 9, []⟩,
    ⟨(some 33), .mv (.t 8), none, 264704, 10, []⟩,
    ⟨(some 34), .bin .add (.t 32) (.t 33), none, 264960, 11, []⟩,
    ⟨(some 35), .iaddr 1 (.t 29) (.t 34), none, 265216, 12, []⟩,
    ⟨(some 36), .load 1 false (.t 35), none, 265472, 13, []⟩,
    ⟨(some 37), .iaddr 1 (.t 23) (.t 28), none, 265728, 14, []⟩,
    ⟨none, .store 1 (.t 37) (.t 36), none, 265984, 15, []⟩])
  (.reg [⟨(some 38), .mv (.t 0), none, 327680, 0, []⟩,
    ⟨(some 39), .mv (.t 3), none, 327936, 1, []⟩,
    ⟨(some 40), .mv (.t 1), none, 328192, 2, []⟩,
    ⟨(some 41), .bin .mul (.t 39) (.t 40), none, 328448, 3, []⟩,
    ⟨(some 42), .mv (.t 8), none, 328704, 4, []⟩,
    ⟨(some 43), .bin .add (.t 41) (.t 42), none, 328960, 5, []⟩,
    ⟨(some 44), .mv (.t 9), none, 329216, 6, []⟩,
    ⟨(some 45), .iaddr 1 (.t 38) (.t 43), none, 329472, 7, []⟩,
    ⟨none, .store 1 (.t 45) (.t 44), none, 329728, 8, []⟩]))))
  (.reg [⟨(some 13), .mv (.t 8), none, 131072, 0, []⟩,
    ⟨(some 14), .bin .add (.t 13) (.k (.int .i64 1)), none, 131328, 1, []⟩,
    ⟨(some 8), .mv (.t 14), none, 131584, 2, []⟩])))))⟩
/-- loop.example/g00849/spec.l03Clear -/
def F75 : F := ⟨4, 126, [],
 .seq (.reg [⟨(some 13), .mv (.t 0), none, 0, 0, []⟩,
   ⟨(some 14), .mv (.t 3), none, 256, 1, []⟩,
   ⟨(some 15), .mv (.t 2), none, 512, 2, []⟩,
   ⟨(some 16), .bin .mul (.t 14) (.t 15), none, 768, 3, []⟩,
   ⟨(some 17), .mv (.t 3), none, 1024, 4, []⟩,
   ⟨(some 18), .bin .add (.t 16) (.t 17), none, 1280, 5, []⟩,
   ⟨(some 19), .iaddr 1 (.t 13) (.t 18), none, 1536, 6, []⟩,
   ⟨(some 20), .load 1 false (.t 19), none, 1792, 7, []⟩,
   ⟨(some 21), .call 57 [(.t 20)] true, none, 2048, 8, []⟩,
   ⟨(some 8), .mv (.t 21), none, 2304, 9, []⟩])
 (.seq (.seq (.reg [⟨(some 9), .mv (.k (.int .i64 0)), none, 65536, 0, []⟩])
 (.block 0 (.loop [0, 1, 2, 3, 8, 9] [922625, 988161]
  (.seq (.seq (.reg [⟨(some 22), .mv (.t 9), none, 131072, 0, []⟩,
    ⟨(some 23), .mv (.t 2), none, 131328, 1, []⟩,
    ⟨(some 24), .bin .lss (.t 22) (.t 23), none, 131584, 2, []⟩])
  (.cond (.t 24)
   (.skip)
   (.exit 0)))
  (.seq (.block 1 (.seq (.reg [⟨(some 27), .mv (.t 0), none, 262144, 0, []⟩,
    ⟨(some 28), .mv (.t 3), none, 262400, 1, []⟩,
    ⟨(some 29), .mv (.t 2), none, 262656, 2, []⟩,
    ⟨(some 30), .bin .mul (.t 28) (.t 29), none, 262912, 3, []⟩,
    ⟨(some 31), .mv (.t 9), none, 263168, 4, []⟩,
    ⟨(some 32), .bin .add (.t 30) (.t 31), none, 263424, 5, []⟩,
    ⟨(some 33), .mv (.t 8), none, 263680, 6, []⟩,
    ⟨(some 34), .mv (.t 0), none, 263936, 7, []⟩,
    ⟨(some 35), .mv (.t 3), none, 264192, 8, []⟩,
    ⟨(some 36), .mv (.t 2), none, 264448, 9, []⟩,
    ⟨(some 37), .bin .mul (.t 35) (.t 36), none, 264704, 10, []⟩,
    ⟨(some 38), .mv (.t 9), none, 264960, 11, []⟩,
    ⟨(some 39), .bin .add (.t 37) (.t 38), none, 265216, 12, []⟩,
    ⟨(some 40), .iaddr 1 (.t 34) (.t 39), none, 265472, 13, []⟩,
    ⟨(some 41), .load 1 false (.t 40), none, 265728, 14, []⟩,
    ⟨(some 42), .call 56 [(.t 33), (.t 41)] true, none, 265984, 15, []⟩,
    ⟨(some 43), .iaddr 1 (.t 27) (.t 32), none, 266240, 16, []⟩,
    ⟨none, .store 1 (.t 43) (.t 42), none, 266496, 17, []⟩])
  (.reg [⟨(some 44), .mv (.t 1), none, 327680, 0, []⟩,
    ⟨(some 45), .mv (.t 3), none, 327936, 1, []⟩,
    ⟨(some 46), .mv (.t 2), none, 328192, 2, []⟩,
    ⟨(some 47), .bin .mul (.t 45) (.t 46), none, 328448, 3, []⟩,
    ⟨(some 48), .mv (.t 9), none, 328704, 4, []⟩,
    ⟨(some 49), .bin .add (.t 47) (.t 48), none, 328960, 5, []⟩,
    ⟨(some 50), .mv (.t 8), none, 329216, 6, []⟩,
    ⟨(some 51), .mv (.t 1), none, 329472, 7, []⟩,
    ⟨(some 52), .mv (.t 3), none, 329728, 8, []⟩,
    ⟨(some 53), .mv (.t 2), none, 329984, 9, []⟩,
    ⟨(some 54), .bin .mul (.t 52) (.t 53), none, 330240, 10, []⟩,
    ⟨(some 55), .mv (.t 9), none, 330496, 11, []⟩,
    ⟨(some 56), .bin .add (.t 54) (.t 55), none, 330752, 12, []⟩,
    ⟨(some 57), .iaddr 1 (.t 51) (.t 56), none, 331008, 13, []⟩,
    ⟨(some 58), .load 1 false (.t 57), none, 331264, 14, []⟩,
    ⟨(some 59), .call 56 [(.t 50), (.t 58)] true, none, 331520, 15, []⟩,
    ⟨(some 60), .iaddr 1 (.t 44) (.t 49), none, 331776, 16, []⟩,
    ⟨none, .store 1 (.t 60) (.t 59), none, 332032, 17, []⟩])))
  (.reg [⟨(some 25), .mv (.t 9), none, 196608, 0, []⟩,
    ⟨(some 26), .bin .add (.t 25) (.k (.int .i64 1)), none, 196864, 1, []⟩,
    ⟨(some 9), .mv (.t 26), none, 197120, 2, []⟩]))))))
 (.seq (.reg [⟨(some 10), .mv (.k (.int .i64 0)), none, 393216, 0, []⟩])
 (.block 2 (.loop [0, 1, 2, 3, 10] [266497, 332033]
  (.seq (.seq (.reg [⟨(some 61), .mv (.t 10), none, 458752, 0, []⟩,
    ⟨(some 62), .mv (.t 2), none, 459008, 1, []⟩,
    ⟨(some 63), .bin .lss (.t 61) (.t 62), none, 459264, 2, []⟩])
  (.cond (.t 63)
   (.skip)
   (.exit 2)))
  (.seq (.block 3 (.seq (.reg [⟨(some 66), .mv (.t 0), none, 589824, 0, []⟩,
    ⟨(some 67), .mv (.t 10), none, 590080, 1, []⟩,
    ⟨(some 68), .mv (.t 2), none, 590336, 2, []⟩,
    ⟨(some 69), .bin .mul (.t 67) (.t 68), none, 590592, 3, []⟩,
    ⟨(some 70), .mv (.t 3), none, 590848, 4, []⟩,
    ⟨(some 71), .bin .add (.t 69) (.t 70), none, 591104, 5, []⟩,
    ⟨(some 72), .iaddr 1 (.t 66) (.t 71), none, 591360, 6, []⟩,
    ⟨(some 73), .load 1 false (.t 72), none, 591616, 7, []⟩,
    ⟨(some 11), .mv (.t 73), none, 591872, 8, []⟩])
  (.seq (.seq (.reg [⟨(some 74), .mv (.t 10), none, 655360, 0, []⟩,
    ⟨(some 75), .mv (.t 3), none, 655616, 1, []⟩,
    ⟨(some 76), .bin .eql (.t 74) (.t 75), none, 655872, 2, []⟩,
    ⟨(some 77), .mv (.t 76), none, 656128, 3, []⟩,
    ⟨(some 78), .mv (.t 11), (some (some 77, false)), 656384, 4, []⟩,
    ⟨(some 79), .bin .eql (.t 78) (.k (.int .i64 0)), (some (some 77, false)), 656640, 5, []⟩,
    ⟨(some 80), .pick (.t 77) (.k (.bool true)) (.t 79), none, 656896, 6, []⟩])
  (.cond (.t 80)
   (.exit 3)
   (.skip)))
  (.seq (.reg [⟨(some 12), .mv (.k (.int .i64 0)), none, 720896, 0, []⟩])
  (.block 4 (.loop [0, 1, 2, 3, 10, 11, 12] [266497, 332033]
   (.seq (.seq (.reg [⟨(some 81), .mv (.t 12), none, 786432, 0, []⟩,
     ⟨(some 82), .mv (.t 2), none, 786688, 1, []⟩,
     ⟨(some 83), .bin .lss (.t 81) (.t 82), none, 786944, 2, []⟩])
   (.cond (.t 83)
    (.skip)
    (.exit 4)))
   (.seq (.block 5 (.seq (.reg [⟨(some 86), .mv (.t 0), none, 917504, 0, []⟩,
     ⟨(some 87), .mv (.t 10), none, 917760, 1, []⟩,
     ⟨(some 88), .mv (.t 2), none, 918016, 2, []⟩,
     ⟨(some 89), .bin .mul (.t 87) (.t 88), none, 918272, 3, []⟩,
     ⟨(some 90), .mv (.t 12), none, 918528, 4, []⟩,
     ⟨(some 91), .bin .add (.t 89) (.t 90), none, 918784, 5, []⟩,
     ⟨(some 92), .iaddr 1 (.t 86) (.t 91), none, 919040, 6, []⟩,
     ⟨(some 93), .load 1 false (.t 92), none, 919296, 7, []⟩,
     ⟨(some 94), .mv (.t 11), none, 919552, 8, []⟩,
     ⟨(some 95), .mv (.t 0), none, 919808, 9, []⟩,
     ⟨(some 96), .mv (.t 3), none, 920064, 10, []⟩,
     ⟨(some 97), .mv (.t 2), none, 920320, 11, []⟩,
     ⟨(some 98), .bin .mul (.t 96) (.t 97), none, 920576, 12, []⟩,
     ⟨(some 99), .mv (.t 12), none, 920832, 13, []⟩,
     ⟨(some 100), .bin .add (.t 98) (.t 99), none, 921088, 14, []⟩,
     ⟨(some 101), .iaddr 1 (.t 95) (.t 100), none, 921344, 15, []⟩,
     ⟨(some 102), .load 1 false (.t 101), none, 921600, 16, []⟩,
     ⟨(some 103), .call 56 [(.t 94), (.t 102)] true, none, 921856, 17, []⟩,
     ⟨(some 104), .bin .xor (.t 93) (.t 103), none, 922112, 18, []⟩,
     ⟨(some 105), .iaddr 1 (.t 86) (.t 91), none, 922368, 19, []⟩,
     ⟨none, .store 1 (.t 105) (.t 104), none, 922624, 20, []⟩])
   (.reg [⟨(some 106), .mv (.t 1), none, 983040, 0, []⟩,
     ⟨(some 107), .mv (.t 10), none, 983296, 1, []⟩,
     ⟨(some 108), .mv (.t 2), none, 983552, 2, []⟩,
     ⟨(some 109), .bin .mul (.t 107) (.t 108), none, 983808, 3, []⟩,
     ⟨(some 110), .mv (.t 12), none, 984064, 4, []⟩,
     ⟨(some 111), .bin .add (.t 109) (.t 110), none, 984320, 5, []⟩,
     ⟨(some 112), .iaddr 1 (.t 106) (.t 111), none, 984576, 6, []⟩,
     ⟨(some 113), .load 1 false (.t 112), none, 984832, 7, []⟩,
     ⟨(some 114), .mv (.t 11), none, 985088, 8, []⟩,
     ⟨(some 115), .mv (.t 1), none, 985344, 9, []⟩,
     ⟨(some 116), .mv (.t 3), none, 985600, 10, []⟩,
     ⟨(some 117), .mv (.t 2), none, 985856, 11, []⟩,
     ⟨(some 118), .bin .mul (.t 116) (.t 117), none, 986112, 12, []⟩,
     ⟨(some 119), .mv (.t 12), none, 986368, 13, []⟩,
     ⟨(some 120), .bin .add (.t 118) (.t 119), none, 986624, 14, []⟩,
     ⟨(some 121), .iaddr 1 (.t 115) (.t 120), none, 986880, 15, []⟩,
     ⟨(some 122), .load 1 false (.t 121), none, 987136, 16, []⟩,
     ⟨(some 123), .call 56 [(.t 114), (.t 122)] true, none, 987392, 17, []⟩,
     ⟨(some 124), .bin .xor (.t 113) (.t 123), none, 987648, 18, []⟩,
     ⟨(some 125), .iaddr 1 (.t 106) (.t 111), none, 987904, 19, []⟩,
     ⟨none, .store 1 (.t 125) (.t 124), none, 988160, 20, []⟩])))
   (.reg [⟨(some 84), .mv (.t 12), none, 851968, 0, []⟩,
     ⟨(some 85), .bin .add (.t 84) (.k (.int .i64 1)), none, 852224, 1, []⟩,
     ⟨(some 12), .mv (.t 85), none, 852480, 2, []⟩])))))))))
  (.reg [⟨(some 64), .mv (.t 10), none, 524288, 0, []⟩,
    ⟨(some 65), .bin .add (.t 64) (.k (.int .i64 1)), none, 524544, 1, []⟩,
    ⟨(some 10), .mv (.t 65), none, 524800, 2, []⟩])))))))⟩
/-- loop.example/g00849/spec.l02Pow -/
def F76 : F := ⟨2, 20, [.t 4],
 .seq (.reg [⟨(some 4), .mv (.k (.int .i64 0)), none, 0, 0, []⟩])
 (.seq (.reg [⟨(some 5), .mv (.k (.int .i64 1)), none, 65536, 0, []⟩])
 (.seq (.block 0 (.loop [0, 1, 5] []
  (.seq (.seq (.reg [⟨(some 6), .mv (.t 1), none, 131072, 0, []⟩,
    ⟨(some 7), .bin .gtr (.t 6) (.k (.int .i64 0)), none, 131328, 1, []⟩])
  (.cond (.t 7)
   (.skip)
   (.exit 0)))
  (.block 1 (.seq (.seq (.reg [⟨(some 8), .mv (.t 1), none, 196608, 0, []⟩,
    ⟨(some 9), .bin .rem (.t 8) (.k (.int .i64 2)), none, 196864, 1, []⟩,
    ⟨(some 10), .bin .eql (.t 9) (.k (.int .i64 1)), none, 197120, 2, []⟩])
  (.cond (.t 10)
   (.reg [⟨(some 11), .mv (.t 5), none, 262144, 0, []⟩,
     ⟨(some 12), .mv (.t 0), none, 262400, 1, []⟩,
     ⟨(some 13), .call 56 [(.t 11), (.t 12)] true, none, 262656, 2, []⟩,
     ⟨(some 5), .mv (.t 13), none, 262912, 3, []⟩])
   (.skip)))
  (.seq (.reg [⟨(some 14), .mv (.t 0), none, 327680, 0, []⟩,
    ⟨(some 15), .mv (.t 0), none, 327936, 1, []⟩,
    ⟨(some 16), .call 56 [(.t 14), (.t 15)] true, none, 328192, 2, []⟩,
    ⟨(some 0), .mv (.t 16), none, 328448, 3, []⟩])
  (.reg [⟨(some 17), .mv (.t 1), none, 393216, 0, []⟩,
    ⟨(some 18), .bin .quo (.t 17) (.k (.int .i64 2)), none, 393472, 1, []⟩,
    ⟨(some 1), .mv (.t 18), none, 393728, 2, []⟩])))))))
 (.seq (.reg [⟨(some 19), .mv (.t 5), none, 458752, 0, []⟩,
   ⟨(some 4), .mv (.t 19), none, 459008, 1, []⟩])
 (.ret))))⟩
/-- loop.example/g00849/impl.power -/
def F77 : F := ⟨2, 20, [.t 4],
 .seq (.reg [⟨(some 4), .mv (.k (.int .i64 0)), none, 0, 0, []⟩])
 (.seq (.reg [⟨(some 5), .mv (.k (.int .i64 1)), none, 65536, 0, []⟩])
 (.seq (.block 0 (.loop [0, 1, 5] []
  (.seq (.seq (.reg [⟨(some 6), .mv (.t 1), none, 131072, 0, []⟩,
    ⟨(some 7), .bin .gtr (.t 6) (.k (.int .i64 0)), none, 131328, 1, []⟩])
  (.cond (.t 7)
   (.skip)
   (.exit 0)))
  (.seq (.block 1 (.seq (.seq (.reg [⟨(some 10), .mv (.t 1), none, 262144, 0, []⟩,
    ⟨(some 11), .bin .rem (.t 10) (.k (.int .i64 2)), none, 262400, 1, []⟩,
    ⟨(some 12), .bin .eql (.t 11) (.k (.int .i64 1)), none, 262656, 2, []⟩])
  (.cond (.t 12)
   (.reg [⟨(some 13), .mv (.t 5), none, 327680, 0, []⟩,
     ⟨(some 14), .mv (.t 0), none, 327936, 1, []⟩,
     ⟨(some 15), .call 41 [(.t 13), (.t 14)] true, none, 328192, 2, []⟩,
     ⟨(some 5), .mv (.t 15), none, 328448, 3, []⟩])
   (.skip)))
  (.reg [⟨(some 16), .mv (.t 0), none, 393216, 0, []⟩,
    ⟨(some 17), .mv (.t 0), none, 393472, 1, []⟩,
    ⟨(some 18), .call 41 [(.t 16), (.t 17)] true, none, 393728, 2, []⟩,
    ⟨(some 0), .mv (.t 18), none, 393984, 3, []⟩])))
  (.reg [⟨(some 8), .mv (.t 1), none, 196608, 0, []⟩,
    ⟨(some 9), .bin .quo (.t 8) (.k (.int .i64 2)), none, 196864, 1, []⟩,
    ⟨(some 1), .mv (.t 9), none, 197120, 2, []⟩])))))
 (.seq (.reg [⟨(some 19), .mv (.t 5), none, 458752, 0, []⟩,
   ⟨(some 4), .mv (.t 19), none, 459008, 1, []⟩])
 (.ret))))⟩
/-- (loop.example/g00849/impl.Matrix).pieces -/
def F84 : F := ⟨2, 44, [.t 4],
 .seq (.reg [⟨(some 2), .box (.t 0), none, 0, 0, []⟩,
   ⟨(some 4), .nil0 true 1, none, 256, 1, []⟩])
 (.seq (.reg [⟨(some 5), .nil0 true 1, none, 65536, 0, []⟩])
 (.seq (.seq (.reg [⟨(some 10), .faddr 0 (.t 2), none, 131072, 0, []⟩,
   ⟨(some 11), .load 1 false (.t 10), none, 131328, 1, []⟩,
   ⟨(some 12), .mv (.k (.int .i64 0)), none, 131584, 2, []⟩])
 (.block 0 (.loop [1, 2, 5, 11, 12] [0, 1, 2, 3, 4, 5, 256, 65536]
  (.seq (.reg [⟨(some 13), .bin .lss (.t 12) (.t 11), none, 196608, 0, []⟩])
  (.seq (.cond (.t 13)
   (.skip)
   (.exit 0))
  (.seq (.block 1 (.seq (.reg [⟨(some 14), .mv (.t 12), none, 262144, 0, []⟩,
    ⟨(some 6), .mv (.t 14), none, 262400, 1, []⟩])
  (.seq (.reg [⟨(some 15), .mv (.t 1), none, 327680, 0, []⟩,
    ⟨(some 16), .iaddr 1 (.t 15) (.k (.int .i64 0)), none, 327936, 1, []⟩,
    ⟨(some 17), .load 1 false (.t 16), none, 328192, 2, []⟩,
    ⟨(some 18), .len true (.t 17), none, 328448, 3, []⟩,
    ⟨(some 19), .call 69 [(.k (.str ⟨#[0]⟩)), (.t 18)] true, none, 328704, 4, []⟩,
    ⟨(some 7), .mv (.t 19), none, 328960, 5, []⟩])
  (.seq (.seq (.reg [⟨(some 20), .load 3 true (.t 2), none, 393216, 0, []⟩,
    ⟨(some 21), .mv (.t 6), none, 393472, 1, []⟩,
    ⟨(some 22), .call 40 [(.t 20), (.t 21)] false, none, 393728, 2, []⟩,
    ⟨(some 23), .len false (.t 22), none, 393984, 3, []⟩,
    ⟨(some 24), .mv (.k (.int .i64 0)), none, 394240, 4, []⟩])
  (.block 2 (.loop [1, 2, 5, 7, 11, 12, 22, 23, 24] [0, 1, 2, 3, 4, 5, 256, 65536, 393728, 393729, 393730, 393731, 721408, 721664]
   (.seq (.reg [⟨(some 25), .bin .lss (.t 24) (.t 23), none, 458752, 0, []⟩])
   (.seq (.cond (.t 25)
    (.skip)
    (.exit 2))
   (.seq (.block 3 (.seq (.reg [⟨(some 26), .mv (.t 24), none, 524288, 0, []⟩,
     ⟨(some 27), .iaddr 1 (.t 22) (.t 24), none, 524544, 1, []⟩,
     ⟨(some 28), .load 1 false (.t 27), none, 524800, 2, []⟩,
     ⟨(some 8), .mv (.t 26), none, 525056, 3, []⟩,
     ⟨(some 9), .mv (.t 28), none, 525312, 4, []⟩])
   (.reg [⟨(some 29), .mv (.t 7), none, 589824, 0, []⟩,
     ⟨(some 30), .mv (.t 9), none, 590080, 1, []⟩,
     ⟨(some 31), .mv (.t 1), none, 590336, 2, []⟩,
     ⟨(some 32), .mv (.t 8), none, 590592, 3, []⟩,
     ⟨(some 33), .iaddr 1 (.t 31) (.t 32), none, 590848, 4, []⟩,
     ⟨(some 34), .load 1 false (.t 33), none, 591104, 5, []⟩,
     ⟨(some 35), .call 91 [(.t 30), (.t 34)] true, none, 591360, 6, []⟩,
     ⟨(some 36), .call 90 [(.t 29), (.t 35)] true, none, 591616, 7, []⟩,
     ⟨(some 7), .mv (.t 36), none, 591872, 8, []⟩])))
   (.reg [⟨(some 37), .bin .add (.t 24) (.k (.int .i64 1)), none, 655360, 0, []⟩,
     ⟨(some 24), .mv (.t 37), none, 655616, 1, []⟩])))))))
  (.reg [⟨(some 38), .mv (.t 5), none, 720896, 0, []⟩,
    ⟨(some 39), .mv (.t 7), none, 721152, 1, []⟩,
    ⟨(some 40), .bslice true 1 [(.str ByteArray.empty)] 1 [(0, (.t 39))], none, 721408, 2, []⟩,
    ⟨(some 41), .app true 1 16 (.t 38) (.t 40), none, 721664, 3, []⟩,
    ⟨(some 5), .mv (.t 41), none, 721920, 4, []⟩])))))
  (.reg [⟨(some 42), .bin .add (.t 12) (.k (.int .i64 1)), none, 786432, 0, []⟩,
    ⟨(some 12), .mv (.t 42), none, 786688, 1, []⟩])))))))
 (.seq (.reg [⟨(some 43), .mv (.t 5), none, 851968, 0, []⟩,
   ⟨(some 4), .mv (.t 43), none, 852224, 1, []⟩])
 (.ret))))⟩
/-- loop.example/g00849/impl.summed -/
def F90 : F := ⟨2, 28, [.t 4],
 .seq (.reg [⟨(some 4), .mv (.k (.str ByteArray.empty)), none, 0, 0, []⟩])
 (.seq (.reg [⟨(some 7), .mv (.t 0), none, 65536, 0, []⟩,
   ⟨(some 8), .len true (.t 7), none, 65792, 1, []⟩,
   ⟨(some 9), .mksl true 1 1 [(.int .u8 0)] (.t 8) (.t 8), none, 66048, 2, []⟩,
   ⟨(some 5), .mv (.t 9), none, 66304, 3, []⟩])
 (.seq (.seq (.reg [⟨(some 10), .mv (.t 5), none, 131072, 0, []⟩,
   ⟨(some 11), .len false (.t 10), none, 131328, 1, []⟩,
   ⟨(some 12), .mv (.k (.int .i64 0)), none, 131584, 2, []⟩])
 (.block 0 (.loop [0, 1, 5, 11, 12] [66048]
  (.seq (.reg [⟨(some 13), .bin .lss (.t 12) (.t 11), none, 196608, 0, []⟩])
  (.seq (.cond (.t 13)
   (.skip)
   (.exit 0))
  (.seq (.block 1 (.seq (.reg [⟨(some 14), .mv (.t 12), none, 262144, 0, []⟩,
    ⟨(some 6), .mv (.t 14), none, 262400, 1, []⟩])
  (.reg [⟨(some 15), .mv (.t 5), none, 327680, 0, []⟩,
    ⟨(some 16), .mv (.t 6), none, 327936, 1, []⟩,
    ⟨(some 17), .mv (.t 0), none, 328192, 2, []⟩,
    ⟨(some 18), .mv (.t 6), none, 328448, 3, []⟩,
    ⟨(some 19), .idx (.t 17) (.t 18), none, 328704, 4, []⟩,
    ⟨(some 20), .mv (.t 1), none, 328960, 5, []⟩,
    ⟨(some 21), .mv (.t 6), none, 329216, 6, []⟩,
    ⟨(some 22), .idx (.t 20) (.t 21), none, 329472, 7, []⟩,
    ⟨(some 23), .bin .xor (.t 19) (.t 22), none, 329728, 8, []⟩,
    ⟨(some 24), .iaddr 1 (.t 15) (.t 16), none, 329984, 9, []⟩,
    ⟨none, .store 1 (.t 24) (.t 23), none, 330240, 10, []⟩])))
  (.reg [⟨(some 25), .bin .add (.t 12) (.k (.int .i64 1)), none, 393216, 0, []⟩,
    ⟨(some 12), .mv (.t 25), none, 393472, 1, []⟩])))))))
 (.seq (.reg [⟨(some 26), .mv (.t 5), none, 458752, 0, []⟩,
   ⟨(some 27), .b2s (.t 26), none, 459008, 1, []⟩,
   ⟨(some 4), .mv (.t 27), none, 459264, 2, []⟩])
 (.ret))))⟩
/-- loop.example/g00849/impl.scaled -/
def F91 : F := ⟨2, 28, [.t 4],
 .seq (.reg [⟨(some 4), .mv (.k (.str ByteArray.empty)), none, 0, 0, []⟩])
 (.seq (.reg [⟨(some 7), .mv (.t 1), none, 65536, 0, []⟩,
   ⟨(some 8), .len true (.t 7), none, 65792, 1, []⟩,
   ⟨(some 9), .mksl true 1 1 [(.int .u8 0)] (.t 8) (.t 8), none, 66048, 2, []⟩,
   ⟨(some 5), .mv (.t 9), none, 66304, 3, []⟩])
 (.seq (.seq (.reg [⟨(some 10), .mv (.t 5), none, 131072, 0, []⟩,
   ⟨(some 11), .len false (.t 10), none, 131328, 1, []⟩,
   ⟨(some 12), .mv (.k (.int .i64 0)), none, 131584, 2, []⟩])
 (.block 0 (.loop [0, 1, 5, 11, 12] [66048]
  (.seq (.reg [⟨(some 13), .bin .lss (.t 12) (.t 11), none, 196608, 0, []⟩])
  (.seq (.cond (.t 13)
   (.skip)
   (.exit 0))
  (.seq (.block 1 (.seq (.reg [⟨(some 14), .mv (.t 12), none, 262144, 0, []⟩,
    ⟨(some 6), .mv (.t 14), none, 262400, 1, []⟩])
  (.reg [⟨(some 15), .mv (.t 5), none, 327680, 0, []⟩,
    ⟨(some 16), .mv (.t 6), none, 327936, 1, []⟩,
    ⟨(some 17), .mv (.t 0), none, 328192, 2, []⟩,
    ⟨(some 18), .mv (.t 1), none, 328448, 3, []⟩,
    ⟨(some 19), .mv (.t 6), none, 328704, 4, []⟩,
    ⟨(some 20), .idx (.t 18) (.t 19), none, 328960, 5, []⟩,
    ⟨(some 21), .conv .i64 (.t 20), none, 329216, 6, []⟩,
    ⟨(some 22), .call 41 [(.t 17), (.t 21)] true, none, 329472, 7, []⟩,
    ⟨(some 23), .conv .u8 (.t 22), none, 329728, 8, []⟩,
    ⟨(some 24), .iaddr 1 (.t 15) (.t 16), none, 329984, 9, []⟩,
    ⟨none, .store 1 (.t 24) (.t 23), none, 330240, 10, []⟩])))
  (.reg [⟨(some 25), .bin .add (.t 12) (.k (.int .i64 1)), none, 393216, 0, []⟩,
    ⟨(some 12), .mv (.t 25), none, 393472, 1, []⟩])))))))
 (.seq (.reg [⟨(some 26), .mv (.t 5), none, 458752, 0, []⟩,
   ⟨(some 27), .b2s (.t 26), none, 459008, 1, []⟩,
   ⟨(some 4), .mv (.t 27), none, 459264, 2, []⟩])
 (.ret))))⟩
def fns : Nat → Option F
  | 5 => some F5
  | 6 => some F6
  | 7 => some F7
  | 8 => some F8
  | 10 => some F10
  | 11 => some F11
  | 12 => some F12
  | 13 => some F13
  | 14 => some F14
  | 16 => some F16
  | 17 => some F17
  | 18 => some F18
  | 19 => some F19
  | 20 => some F20
  | 21 => some F21
  | 22 => some F22
  | 23 => some F23
  | 24 => some F24
  | 25 => some F25
  | 26 => some F26
  | 27 => some F27
  | 28 => some F28
  | 30 => some F30
  | 31 => some F31
  | 32 => some F32
  | 33 => some F33
  | 34 => some F34
  | 35 => some F35
  | 36 => some F36
  | 38 => some F38
  | 39 => some F39
  | 40 => some F40
  | 41 => some F41
  | 42 => some F42
  | 43 => some F43
  | 44 => some F44
  | 45 => some F45
  | 46 => some F46
  | 47 => some F47
  | 48 => some F48
  | 49 => some F49
  | 50 => some F50
  | 51 => some F51
  | 52 => some F52
  | 53 => some F53
  | 54 => some F54
  | 55 => some F55
  | 56 => some F56
  | 57 => some F57
  | 58 => some F58
  | 59 => some F59
  | 60 => some F60
  | 61 => some F61
  | 62 => some F62
  | 63 => some F63
  | 64 => some F64
  | 65 => some F65
  | 66 => some F66
  | 67 => some F67
  | 68 => some F68
  | 70 => some F70
  | 71 => some F71
  | 72 => some F72
  | 73 => some F73
  | 74 => some F74
  | 75 => some F75
  | 76 => some F76
  | 77 => some F77
  | 84 => some F84
  | 90 => some F90
  | 91 => some F91
  | _ => none
def nats : Nat → Option (List AV → Option (AV × List Blk))
  | 69 => some natRepeat
  | _ => none
def code : Prog := ⟨fns, md, nats⟩
theorem nat69 (k : Nat) (args : List AV) (E : List Heap) (v : AV) (bs : List Blk) (h : natRepeat args = some (v, bs)) : call code (k + 1) 69 args E = some ⟨v, bs, E⟩ := call_nat rfl h
theorem fn5 : code.fn 5 = some F5 := rfl
theorem fn6 : code.fn 6 = some F6 := rfl
theorem fn7 : code.fn 7 = some F7 := rfl
theorem fn8 : code.fn 8 = some F8 := rfl
theorem fn10 : code.fn 10 = some F10 := rfl
theorem fn11 : code.fn 11 = some F11 := rfl
theorem fn12 : code.fn 12 = some F12 := rfl
theorem fn13 : code.fn 13 = some F13 := rfl
theorem fn14 : code.fn 14 = some F14 := rfl
theorem fn16 : code.fn 16 = some F16 := rfl
theorem fn17 : code.fn 17 = some F17 := rfl
theorem fn18 : code.fn 18 = some F18 := rfl
theorem fn19 : code.fn 19 = some F19 := rfl
theorem fn20 : code.fn 20 = some F20 := rfl
theorem fn21 : code.fn 21 = some F21 := rfl
theorem fn22 : code.fn 22 = some F22 := rfl
theorem fn23 : code.fn 23 = some F23 := rfl
theorem fn24 : code.fn 24 = some F24 := rfl
theorem fn25 : code.fn 25 = some F25 := rfl
theorem fn26 : code.fn 26 = some F26 := rfl
theorem fn27 : code.fn 27 = some F27 := rfl
theorem fn28 : code.fn 28 = some F28 := rfl
theorem fn30 : code.fn 30 = some F30 := rfl
theorem fn31 : code.fn 31 = some F31 := rfl
theorem fn32 : code.fn 32 = some F32 := rfl
theorem fn33 : code.fn 33 = some F33 := rfl
theorem fn34 : code.fn 34 = some F34 := rfl
theorem fn35 : code.fn 35 = some F35 := rfl
theorem fn36 : code.fn 36 = some F36 := rfl
theorem fn38 : code.fn 38 = some F38 := rfl
theorem fn39 : code.fn 39 = some F39 := rfl
theorem fn40 : code.fn 40 = some F40 := rfl
theorem fn41 : code.fn 41 = some F41 := rfl
theorem fn42 : code.fn 42 = some F42 := rfl
theorem fn43 : code.fn 43 = some F43 := rfl
theorem fn44 : code.fn 44 = some F44 := rfl
theorem fn45 : code.fn 45 = some F45 := rfl
theorem fn46 : code.fn 46 = some F46 := rfl
theorem fn47 : code.fn 47 = some F47 := rfl
theorem fn48 : code.fn 48 = some F48 := rfl
theorem fn49 : code.fn 49 = some F49 := rfl
theorem fn50 : code.fn 50 = some F50 := rfl
theorem fn51 : code.fn 51 = some F51 := rfl
theorem fn52 : code.fn 52 = some F52 := rfl
theorem fn53 : code.fn 53 = some F53 := rfl
theorem fn54 : code.fn 54 = some F54 := rfl
theorem fn55 : code.fn 55 = some F55 := rfl
theorem fn56 : code.fn 56 = some F56 := rfl
theorem fn57 : code.fn 57 = some F57 := rfl
theorem fn58 : code.fn 58 = some F58 := rfl
theorem fn59 : code.fn 59 = some F59 := rfl
theorem fn60 : code.fn 60 = some F60 := rfl
theorem fn61 : code.fn 61 = some F61 := rfl
theorem fn62 : code.fn 62 = some F62 := rfl
theorem fn63 : code.fn 63 = some F63 := rfl
theorem fn64 : code.fn 64 = some F64 := rfl
theorem fn65 : code.fn 65 = some F65 := rfl
theorem fn66 : code.fn 66 = some F66 := rfl
theorem fn67 : code.fn 67 = some F67 := rfl
theorem fn68 : code.fn 68 = some F68 := rfl
theorem fn70 : code.fn 70 = some F70 := rfl
theorem fn71 : code.fn 71 = some F71 := rfl
theorem fn72 : code.fn 72 = some F72 := rfl
theorem fn73 : code.fn 73 = some F73 := rfl
theorem fn74 : code.fn 74 = some F74 := rfl
theorem fn75 : code.fn 75 = some F75 := rfl
theorem fn76 : code.fn 76 = some F76 := rfl
theorem fn77 : code.fn 77 = some F77 := rfl
theorem fn84 : code.fn 84 = some F84 := rfl
theorem fn90 : code.fn 90 = some F90 := rfl
theorem fn91 : code.fn 91 = some F91 := rfl
theorem rcall69 {O : Oracle} {st : St} {Q : Ex → St → Prop} {fs : List Fr} {d : Option Nat} {b i : Nat} {ap : List X} {r : List IOp} (xs : List X) (fl : Bool) : RunO O code.md (⟨d, .call 69 xs fl, none, b, i, ap⟩ :: r) fs st Q = (quietOk st (.call 69 xs fl) ap = true ∧ RunQ O code.md (callVal O st b 69 (evalXs st xs) fl) d r fs st Q) := R_call 69 xs fl rfl
theorem rcall5 {O : Oracle} {st : St} {Q : Ex → St → Prop} {fs : List Fr} {d : Option Nat} {b i : Nat} {ap : List X} {r : List IOp} (xs : List X) (fl : Bool) : RunO O code.md (⟨d, .call 5 xs fl, none, b, i, ap⟩ :: r) fs st Q = (quietOk st (.call 5 xs fl) ap = true ∧ RunQ O code.md (callVal O st b 5 (evalXs st xs) fl) d r fs st Q) := R_call 5 xs fl rfl
theorem rcall6 {O : Oracle} {st : St} {Q : Ex → St → Prop} {fs : List Fr} {d : Option Nat} {b i : Nat} {ap : List X} {r : List IOp} (xs : List X) (fl : Bool) : RunO O code.md (⟨d, .call 6 xs fl, none, b, i, ap⟩ :: r) fs st Q = (quietOk st (.call 6 xs fl) ap = true ∧ RunQ O code.md (callVal O st b 6 (evalXs st xs) fl) d r fs st Q) := R_call 6 xs fl rfl
theorem rcall7 {O : Oracle} {st : St} {Q : Ex → St → Prop} {fs : List Fr} {d : Option Nat} {b i : Nat} {ap : List X} {r : List IOp} (xs : List X) (fl : Bool) : RunO O code.md (⟨d, .call 7 xs fl, none, b, i, ap⟩ :: r) fs st Q = (quietOk st (.call 7 xs fl) ap = true ∧ RunQ O code.md (callVal O st b 7 (evalXs st xs) fl) d r fs st Q) := R_call 7 xs fl rfl
theorem rcall8 {O : Oracle} {st : St} {Q : Ex → St → Prop} {fs : List Fr} {d : Option Nat} {b i : Nat} {ap : List X} {r : List IOp} (xs : List X) (fl : Bool) : RunO O code.md (⟨d, .call 8 xs fl, none, b, i, ap⟩ :: r) fs st Q = (quietOk st (.call 8 xs fl) ap = true ∧ RunQ O code.md (callVal O st b 8 (evalXs st xs) fl) d r fs st Q) := R_call 8 xs fl rfl
theorem rcall10 {O : Oracle} {st : St} {Q : Ex → St → Prop} {fs : List Fr} {d : Option Nat} {b i : Nat} {ap : List X} {r : List IOp} (xs : List X) (fl : Bool) : RunO O code.md (⟨d, .call 10 xs fl, none, b, i, ap⟩ :: r) fs st Q = (quietOk st (.call 10 xs fl) ap = true ∧ RunQ O code.md (callVal O st b 10 (evalXs st xs) fl) d r fs st Q) := R_call 10 xs fl rfl
theorem rcall11 {O : Oracle} {st : St} {Q : Ex → St → Prop} {fs : List Fr} {d : Option Nat} {b i : Nat} {ap : List X} {r : List IOp} (xs : List X) (fl : Bool) : RunO O code.md (⟨d, .call 11 xs fl, none, b, i, ap⟩ :: r) fs st Q = (quietOk st (.call 11 xs fl) ap = true ∧ RunQ O code.md (callVal O st b 11 (evalXs st xs) fl) d r fs st Q) := R_call 11 xs fl rfl
theorem rcall12 {O : Oracle} {st : St} {Q : Ex → St → Prop} {fs : List Fr} {d : Option Nat} {b i : Nat} {ap : List X} {r : List IOp} (xs : List X) (fl : Bool) : RunO O code.md (⟨d, .call 12 xs fl, none, b, i, ap⟩ :: r) fs st Q = ((apartOk st (.call 12 xs fl) ap && keyedOk st ap) = true ∧ RunK O code.md (callRef O st b 12 (evalXs st xs) fl) st (.call 12 xs fl) ap d r fs Q) := R_callr 12 xs fl rfl
theorem rcall13 {O : Oracle} {st : St} {Q : Ex → St → Prop} {fs : List Fr} {d : Option Nat} {b i : Nat} {ap : List X} {r : List IOp} (xs : List X) (fl : Bool) : RunO O code.md (⟨d, .call 13 xs fl, none, b, i, ap⟩ :: r) fs st Q = (quietOk st (.call 13 xs fl) ap = true ∧ RunQ O code.md (callVal O st b 13 (evalXs st xs) fl) d r fs st Q) := R_call 13 xs fl rfl
theorem rcall14 {O : Oracle} {st : St} {Q : Ex → St → Prop} {fs : List Fr} {d : Option Nat} {b i : Nat} {ap : List X} {r : List IOp} (xs : List X) (fl : Bool) : RunO O code.md (⟨d, .call 14 xs fl, none, b, i, ap⟩ :: r) fs st Q = (quietOk st (.call 14 xs fl) ap = true ∧ RunQ O code.md (callVal O st b 14 (evalXs st xs) fl) d r fs st Q) := R_call 14 xs fl rfl
theorem rcall16 {O : Oracle} {st : St} {Q : Ex → St → Prop} {fs : List Fr} {d : Option Nat} {b i : Nat} {ap : List X} {r : List IOp} (xs : List X) (fl : Bool) : RunO O code.md (⟨d, .call 16 xs fl, none, b, i, ap⟩ :: r) fs st Q = (quietOk st (.call 16 xs fl) ap = true ∧ RunQ O code.md (callVal O st b 16 (evalXs st xs) fl) d r fs st Q) := R_call 16 xs fl rfl
theorem rcall17 {O : Oracle} {st : St} {Q : Ex → St → Prop} {fs : List Fr} {d : Option Nat} {b i : Nat} {ap : List X} {r : List IOp} (xs : List X) (fl : Bool) : RunO O code.md (⟨d, .call 17 xs fl, none, b, i, ap⟩ :: r) fs st Q = (quietOk st (.call 17 xs fl) ap = true ∧ RunQ O code.md (callVal O st b 17 (evalXs st xs) fl) d r fs st Q) := R_call 17 xs fl rfl
theorem rcall18 {O : Oracle} {st : St} {Q : Ex → St → Prop} {fs : List Fr} {d : Option Nat} {b i : Nat} {ap : List X} {r : List IOp} (xs : List X) (fl : Bool) : RunO O code.md (⟨d, .call 18 xs fl, none, b, i, ap⟩ :: r) fs st Q = (quietOk st (.call 18 xs fl) ap = true ∧ RunQ O code.md (callVal O st b 18 (evalXs st xs) fl) d r fs st Q) := R_call 18 xs fl rfl
theorem rcall19 {O : Oracle} {st : St} {Q : Ex → St → Prop} {fs : List Fr} {d : Option Nat} {b i : Nat} {ap : List X} {r : List IOp} (xs : List X) (fl : Bool) : RunO O code.md (⟨d, .call 19 xs fl, none, b, i, ap⟩ :: r) fs st Q = (quietOk st (.call 19 xs fl) ap = true ∧ RunQ O code.md (callVal O st b 19 (evalXs st xs) fl) d r fs st Q) := R_call 19 xs fl rfl
theorem rcall20 {O : Oracle} {st : St} {Q : Ex → St → Prop} {fs : List Fr} {d : Option Nat} {b i : Nat} {ap : List X} {r : List IOp} (xs : List X) (fl : Bool) : RunO O code.md (⟨d, .call 20 xs fl, none, b, i, ap⟩ :: r) fs st Q = (quietOk st (.call 20 xs fl) ap = true ∧ RunQ O code.md (callVal O st b 20 (evalXs st xs) fl) d r fs st Q) := R_call 20 xs fl rfl
theorem rcall21 {O : Oracle} {st : St} {Q : Ex → St → Prop} {fs : List Fr} {d : Option Nat} {b i : Nat} {ap : List X} {r : List IOp} (xs : List X) (fl : Bool) : RunO O code.md (⟨d, .call 21 xs fl, none, b, i, ap⟩ :: r) fs st Q = (quietOk st (.call 21 xs fl) ap = true ∧ RunQ O code.md (callVal O st b 21 (evalXs st xs) fl) d r fs st Q) := R_call 21 xs fl rfl
theorem rcall22 {O : Oracle} {st : St} {Q : Ex → St → Prop} {fs : List Fr} {d : Option Nat} {b i : Nat} {ap : List X} {r : List IOp} (xs : List X) (fl : Bool) : RunO O code.md (⟨d, .call 22 xs fl, none, b, i, ap⟩ :: r) fs st Q = (quietOk st (.call 22 xs fl) ap = true ∧ RunQ O code.md (callVal O st b 22 (evalXs st xs) fl) d r fs st Q) := R_call 22 xs fl rfl
theorem rcall23 {O : Oracle} {st : St} {Q : Ex → St → Prop} {fs : List Fr} {d : Option Nat} {b i : Nat} {ap : List X} {r : List IOp} (xs : List X) (fl : Bool) : RunO O code.md (⟨d, .call 23 xs fl, none, b, i, ap⟩ :: r) fs st Q = (quietOk st (.call 23 xs fl) ap = true ∧ RunQ O code.md (callVal O st b 23 (evalXs st xs) fl) d r fs st Q) := R_call 23 xs fl rfl
theorem rcall24 {O : Oracle} {st : St} {Q : Ex → St → Prop} {fs : List Fr} {d : Option Nat} {b i : Nat} {ap : List X} {r : List IOp} (xs : List X) (fl : Bool) : RunO O code.md (⟨d, .call 24 xs fl, none, b, i, ap⟩ :: r) fs st Q = (quietOk st (.call 24 xs fl) ap = true ∧ RunQ O code.md (callVal O st b 24 (evalXs st xs) fl) d r fs st Q) := R_call 24 xs fl rfl
theorem rcall25 {O : Oracle} {st : St} {Q : Ex → St → Prop} {fs : List Fr} {d : Option Nat} {b i : Nat} {ap : List X} {r : List IOp} (xs : List X) (fl : Bool) : RunO O code.md (⟨d, .call 25 xs fl, none, b, i, ap⟩ :: r) fs st Q = (quietOk st (.call 25 xs fl) ap = true ∧ RunQ O code.md (callVal O st b 25 (evalXs st xs) fl) d r fs st Q) := R_call 25 xs fl rfl
theorem rcall26 {O : Oracle} {st : St} {Q : Ex → St → Prop} {fs : List Fr} {d : Option Nat} {b i : Nat} {ap : List X} {r : List IOp} (xs : List X) (fl : Bool) : RunO O code.md (⟨d, .call 26 xs fl, none, b, i, ap⟩ :: r) fs st Q = (quietOk st (.call 26 xs fl) ap = true ∧ RunQ O code.md (callVal O st b 26 (evalXs st xs) fl) d r fs st Q) := R_call 26 xs fl rfl
theorem rcall27 {O : Oracle} {st : St} {Q : Ex → St → Prop} {fs : List Fr} {d : Option Nat} {b i : Nat} {ap : List X} {r : List IOp} (xs : List X) (fl : Bool) : RunO O code.md (⟨d, .call 27 xs fl, none, b, i, ap⟩ :: r) fs st Q = (quietOk st (.call 27 xs fl) ap = true ∧ RunQ O code.md (callVal O st b 27 (evalXs st xs) fl) d r fs st Q) := R_call 27 xs fl rfl
theorem rcall28 {O : Oracle} {st : St} {Q : Ex → St → Prop} {fs : List Fr} {d : Option Nat} {b i : Nat} {ap : List X} {r : List IOp} (xs : List X) (fl : Bool) : RunO O code.md (⟨d, .call 28 xs fl, none, b, i, ap⟩ :: r) fs st Q = (quietOk st (.call 28 xs fl) ap = true ∧ RunQ O code.md (callVal O st b 28 (evalXs st xs) fl) d r fs st Q) := R_call 28 xs fl rfl
theorem rcall30 {O : Oracle} {st : St} {Q : Ex → St → Prop} {fs : List Fr} {d : Option Nat} {b i : Nat} {ap : List X} {r : List IOp} (xs : List X) (fl : Bool) : RunO O code.md (⟨d, .call 30 xs fl, none, b, i, ap⟩ :: r) fs st Q = (quietOk st (.call 30 xs fl) ap = true ∧ RunQ O code.md (callVal O st b 30 (evalXs st xs) fl) d r fs st Q) := R_call 30 xs fl rfl
theorem rcall31 {O : Oracle} {st : St} {Q : Ex → St → Prop} {fs : List Fr} {d : Option Nat} {b i : Nat} {ap : List X} {r : List IOp} (xs : List X) (fl : Bool) : RunO O code.md (⟨d, .call 31 xs fl, none, b, i, ap⟩ :: r) fs st Q = (quietOk st (.call 31 xs fl) ap = true ∧ RunQ O code.md (callVal O st b 31 (evalXs st xs) fl) d r fs st Q) := R_call 31 xs fl rfl
theorem rcall32 {O : Oracle} {st : St} {Q : Ex → St → Prop} {fs : List Fr} {d : Option Nat} {b i : Nat} {ap : List X} {r : List IOp} (xs : List X) (fl : Bool) : RunO O code.md (⟨d, .call 32 xs fl, none, b, i, ap⟩ :: r) fs st Q = (quietOk st (.call 32 xs fl) ap = true ∧ RunQ O code.md (callVal O st b 32 (evalXs st xs) fl) d r fs st Q) := R_call 32 xs fl rfl
theorem rcall33 {O : Oracle} {st : St} {Q : Ex → St → Prop} {fs : List Fr} {d : Option Nat} {b i : Nat} {ap : List X} {r : List IOp} (xs : List X) (fl : Bool) : RunO O code.md (⟨d, .call 33 xs fl, none, b, i, ap⟩ :: r) fs st Q = ((apartOk st (.call 33 xs fl) ap && keyedOk st ap) = true ∧ RunK O code.md (callRef O st b 33 (evalXs st xs) fl) st (.call 33 xs fl) ap d r fs Q) := R_callr 33 xs fl rfl
theorem rcall34 {O : Oracle} {st : St} {Q : Ex → St → Prop} {fs : List Fr} {d : Option Nat} {b i : Nat} {ap : List X} {r : List IOp} (xs : List X) (fl : Bool) : RunO O code.md (⟨d, .call 34 xs fl, none, b, i, ap⟩ :: r) fs st Q = (quietOk st (.call 34 xs fl) ap = true ∧ RunQ O code.md (callVal O st b 34 (evalXs st xs) fl) d r fs st Q) := R_call 34 xs fl rfl
theorem rcall35 {O : Oracle} {st : St} {Q : Ex → St → Prop} {fs : List Fr} {d : Option Nat} {b i : Nat} {ap : List X} {r : List IOp} (xs : List X) (fl : Bool) : RunO O code.md (⟨d, .call 35 xs fl, none, b, i, ap⟩ :: r) fs st Q = (quietOk st (.call 35 xs fl) ap = true ∧ RunQ O code.md (callVal O st b 35 (evalXs st xs) fl) d r fs st Q) := R_call 35 xs fl rfl
theorem rcall36 {O : Oracle} {st : St} {Q : Ex → St → Prop} {fs : List Fr} {d : Option Nat} {b i : Nat} {ap : List X} {r : List IOp} (xs : List X) (fl : Bool) : RunO O code.md (⟨d, .call 36 xs fl, none, b, i, ap⟩ :: r) fs st Q = (quietOk st (.call 36 xs fl) ap = true ∧ RunQ O code.md (callVal O st b 36 (evalXs st xs) fl) d r fs st Q) := R_call 36 xs fl rfl
theorem rcall38 {O : Oracle} {st : St} {Q : Ex → St → Prop} {fs : List Fr} {d : Option Nat} {b i : Nat} {ap : List X} {r : List IOp} (xs : List X) (fl : Bool) : RunO O code.md (⟨d, .call 38 xs fl, none, b, i, ap⟩ :: r) fs st Q = (quietOk st (.call 38 xs fl) ap = true ∧ RunQ O code.md (callVal O st b 38 (evalXs st xs) fl) d r fs st Q) := R_call 38 xs fl rfl
theorem rcall39 {O : Oracle} {st : St} {Q : Ex → St → Prop} {fs : List Fr} {d : Option Nat} {b i : Nat} {ap : List X} {r : List IOp} (xs : List X) (fl : Bool) : RunO O code.md (⟨d, .call 39 xs fl, none, b, i, ap⟩ :: r) fs st Q = (quietOk st (.call 39 xs fl) ap = true ∧ RunQ O code.md (callVal O st b 39 (evalXs st xs) fl) d r fs st Q) := R_call 39 xs fl rfl
theorem rcall40 {O : Oracle} {st : St} {Q : Ex → St → Prop} {fs : List Fr} {d : Option Nat} {b i : Nat} {ap : List X} {r : List IOp} (xs : List X) (fl : Bool) : RunO O code.md (⟨d, .call 40 xs fl, none, b, i, ap⟩ :: r) fs st Q = (quietOk st (.call 40 xs fl) ap = true ∧ RunV O code.md (callView O st 40 (evalXs st xs)) d r fs st Q) := R_callv' 40 xs fl rfl
theorem rcall41 {O : Oracle} {st : St} {Q : Ex → St → Prop} {fs : List Fr} {d : Option Nat} {b i : Nat} {ap : List X} {r : List IOp} (xs : List X) (fl : Bool) : RunO O code.md (⟨d, .call 41 xs fl, none, b, i, ap⟩ :: r) fs st Q = (quietOk st (.call 41 xs fl) ap = true ∧ RunQ O code.md (callVal O st b 41 (evalXs st xs) fl) d r fs st Q) := R_call 41 xs fl rfl
theorem rcall42 {O : Oracle} {st : St} {Q : Ex → St → Prop} {fs : List Fr} {d : Option Nat} {b i : Nat} {ap : List X} {r : List IOp} (xs : List X) (fl : Bool) : RunO O code.md (⟨d, .call 42 xs fl, none, b, i, ap⟩ :: r) fs st Q = (quietOk st (.call 42 xs fl) ap = true ∧ RunQ O code.md (callVal O st b 42 (evalXs st xs) fl) d r fs st Q) := R_call 42 xs fl rfl
theorem rcall43 {O : Oracle} {st : St} {Q : Ex → St → Prop} {fs : List Fr} {d : Option Nat} {b i : Nat} {ap : List X} {r : List IOp} (xs : List X) (fl : Bool) : RunO O code.md (⟨d, .call 43 xs fl, none, b, i, ap⟩ :: r) fs st Q = (quietOk st (.call 43 xs fl) ap = true ∧ RunQ O code.md (callVal O st b 43 (evalXs st xs) fl) d r fs st Q) := R_call 43 xs fl rfl
theorem rcall44 {O : Oracle} {st : St} {Q : Ex → St → Prop} {fs : List Fr} {d : Option Nat} {b i : Nat} {ap : List X} {r : List IOp} (xs : List X) (fl : Bool) : RunO O code.md (⟨d, .call 44 xs fl, none, b, i, ap⟩ :: r) fs st Q = (quietOk st (.call 44 xs fl) ap = true ∧ RunQ O code.md (callVal O st b 44 (evalXs st xs) fl) d r fs st Q) := R_call 44 xs fl rfl
theorem rcall45 {O : Oracle} {st : St} {Q : Ex → St → Prop} {fs : List Fr} {d : Option Nat} {b i : Nat} {ap : List X} {r : List IOp} (xs : List X) (fl : Bool) : RunO O code.md (⟨d, .call 45 xs fl, none, b, i, ap⟩ :: r) fs st Q = (quietOk st (.call 45 xs fl) ap = true ∧ RunQ O code.md (callVal O st b 45 (evalXs st xs) fl) d r fs st Q) := R_call 45 xs fl rfl
theorem rcall46 {O : Oracle} {st : St} {Q : Ex → St → Prop} {fs : List Fr} {d : Option Nat} {b i : Nat} {ap : List X} {r : List IOp} (xs : List X) (fl : Bool) : RunO O code.md (⟨d, .call 46 xs fl, none, b, i, ap⟩ :: r) fs st Q = (quietOk st (.call 46 xs fl) ap = true ∧ RunQ O code.md (callVal O st b 46 (evalXs st xs) fl) d r fs st Q) := R_call 46 xs fl rfl
theorem rcall47 {O : Oracle} {st : St} {Q : Ex → St → Prop} {fs : List Fr} {d : Option Nat} {b i : Nat} {ap : List X} {r : List IOp} (xs : List X) (fl : Bool) : RunO O code.md (⟨d, .call 47 xs fl, none, b, i, ap⟩ :: r) fs st Q = (quietOk st (.call 47 xs fl) ap = true ∧ RunQ O code.md (callVal O st b 47 (evalXs st xs) fl) d r fs st Q) := R_call 47 xs fl rfl
theorem rcall48 {O : Oracle} {st : St} {Q : Ex → St → Prop} {fs : List Fr} {d : Option Nat} {b i : Nat} {ap : List X} {r : List IOp} (xs : List X) (fl : Bool) : RunO O code.md (⟨d, .call 48 xs fl, none, b, i, ap⟩ :: r) fs st Q = (quietOk st (.call 48 xs fl) ap = true ∧ RunQ O code.md (callVal O st b 48 (evalXs st xs) fl) d r fs st Q) := R_call 48 xs fl rfl
theorem rcall49 {O : Oracle} {st : St} {Q : Ex → St → Prop} {fs : List Fr} {d : Option Nat} {b i : Nat} {ap : List X} {r : List IOp} (xs : List X) (fl : Bool) : RunO O code.md (⟨d, .call 49 xs fl, none, b, i, ap⟩ :: r) fs st Q = (quietOk st (.call 49 xs fl) ap = true ∧ RunQ O code.md (callVal O st b 49 (evalXs st xs) fl) d r fs st Q) := R_call 49 xs fl rfl
theorem rcall50 {O : Oracle} {st : St} {Q : Ex → St → Prop} {fs : List Fr} {d : Option Nat} {b i : Nat} {ap : List X} {r : List IOp} (xs : List X) (fl : Bool) : RunO O code.md (⟨d, .call 50 xs fl, none, b, i, ap⟩ :: r) fs st Q = (quietOk st (.call 50 xs fl) ap = true ∧ RunQ O code.md (callVal O st b 50 (evalXs st xs) fl) d r fs st Q) := R_call 50 xs fl rfl
theorem rcall51 {O : Oracle} {st : St} {Q : Ex → St → Prop} {fs : List Fr} {d : Option Nat} {b i : Nat} {ap : List X} {r : List IOp} (xs : List X) (fl : Bool) : RunO O code.md (⟨d, .call 51 xs fl, none, b, i, ap⟩ :: r) fs st Q = (quietOk st (.call 51 xs fl) ap = true ∧ RunQ O code.md (callVal O st b 51 (evalXs st xs) fl) d r fs st Q) := R_call 51 xs fl rfl
theorem rcall52 {O : Oracle} {st : St} {Q : Ex → St → Prop} {fs : List Fr} {d : Option Nat} {b i : Nat} {ap : List X} {r : List IOp} (xs : List X) (fl : Bool) : RunO O code.md (⟨d, .call 52 xs fl, none, b, i, ap⟩ :: r) fs st Q = ((apartOk st (.call 52 xs fl) ap && keyedOk st ap) = true ∧ RunK O code.md (callRef O st b 52 (evalXs st xs) fl) st (.call 52 xs fl) ap d r fs Q) := R_callr 52 xs fl rfl
theorem rcall53 {O : Oracle} {st : St} {Q : Ex → St → Prop} {fs : List Fr} {d : Option Nat} {b i : Nat} {ap : List X} {r : List IOp} (xs : List X) (fl : Bool) : RunO O code.md (⟨d, .call 53 xs fl, none, b, i, ap⟩ :: r) fs st Q = ((apartOk st (.call 53 xs fl) ap && keyedOk st ap) = true ∧ RunK O code.md (callRef O st b 53 (evalXs st xs) fl) st (.call 53 xs fl) ap d r fs Q) := R_callr 53 xs fl rfl
theorem rcall54 {O : Oracle} {st : St} {Q : Ex → St → Prop} {fs : List Fr} {d : Option Nat} {b i : Nat} {ap : List X} {r : List IOp} (xs : List X) (fl : Bool) : RunO O code.md (⟨d, .call 54 xs fl, none, b, i, ap⟩ :: r) fs st Q = (quietOk st (.call 54 xs fl) ap = true ∧ RunQ O code.md (callVal O st b 54 (evalXs st xs) fl) d r fs st Q) := R_call 54 xs fl rfl
theorem rcall55 {O : Oracle} {st : St} {Q : Ex → St → Prop} {fs : List Fr} {d : Option Nat} {b i : Nat} {ap : List X} {r : List IOp} (xs : List X) (fl : Bool) : RunO O code.md (⟨d, .call 55 xs fl, none, b, i, ap⟩ :: r) fs st Q = (quietOk st (.call 55 xs fl) ap = true ∧ RunQ O code.md (callVal O st b 55 (evalXs st xs) fl) d r fs st Q) := R_call 55 xs fl rfl
theorem rcall56 {O : Oracle} {st : St} {Q : Ex → St → Prop} {fs : List Fr} {d : Option Nat} {b i : Nat} {ap : List X} {r : List IOp} (xs : List X) (fl : Bool) : RunO O code.md (⟨d, .call 56 xs fl, none, b, i, ap⟩ :: r) fs st Q = (quietOk st (.call 56 xs fl) ap = true ∧ RunQ O code.md (callVal O st b 56 (evalXs st xs) fl) d r fs st Q) := R_call 56 xs fl rfl
theorem rcall57 {O : Oracle} {st : St} {Q : Ex → St → Prop} {fs : List Fr} {d : Option Nat} {b i : Nat} {ap : List X} {r : List IOp} (xs : List X) (fl : Bool) : RunO O code.md (⟨d, .call 57 xs fl, none, b, i, ap⟩ :: r) fs st Q = (quietOk st (.call 57 xs fl) ap = true ∧ RunQ O code.md (callVal O st b 57 (evalXs st xs) fl) d r fs st Q) := R_call 57 xs fl rfl
theorem rcall58 {O : Oracle} {st : St} {Q : Ex → St → Prop} {fs : List Fr} {d : Option Nat} {b i : Nat} {ap : List X} {r : List IOp} (xs : List X) (fl : Bool) : RunO O code.md (⟨d, .call 58 xs fl, none, b, i, ap⟩ :: r) fs st Q = (quietOk st (.call 58 xs fl) ap = true ∧ RunQ O code.md (callVal O st b 58 (evalXs st xs) fl) d r fs st Q) := R_call 58 xs fl rfl
theorem rcall59 {O : Oracle} {st : St} {Q : Ex → St → Prop} {fs : List Fr} {d : Option Nat} {b i : Nat} {ap : List X} {r : List IOp} (xs : List X) (fl : Bool) : RunO O code.md (⟨d, .call 59 xs fl, none, b, i, ap⟩ :: r) fs st Q = (quietOk st (.call 59 xs fl) ap = true ∧ RunQ O code.md (callVal O st b 59 (evalXs st xs) fl) d r fs st Q) := R_call 59 xs fl rfl
theorem rcall60 {O : Oracle} {st : St} {Q : Ex → St → Prop} {fs : List Fr} {d : Option Nat} {b i : Nat} {ap : List X} {r : List IOp} (xs : List X) (fl : Bool) : RunO O code.md (⟨d, .call 60 xs fl, none, b, i, ap⟩ :: r) fs st Q = (quietOk st (.call 60 xs fl) ap = true ∧ RunQ O code.md (callVal O st b 60 (evalXs st xs) fl) d r fs st Q) := R_call 60 xs fl rfl
theorem rcall61 {O : Oracle} {st : St} {Q : Ex → St → Prop} {fs : List Fr} {d : Option Nat} {b i : Nat} {ap : List X} {r : List IOp} (xs : List X) (fl : Bool) : RunO O code.md (⟨d, .call 61 xs fl, none, b, i, ap⟩ :: r) fs st Q = (quietOk st (.call 61 xs fl) ap = true ∧ RunQ O code.md (callVal O st b 61 (evalXs st xs) fl) d r fs st Q) := R_call 61 xs fl rfl
theorem rcall62 {O : Oracle} {st : St} {Q : Ex → St → Prop} {fs : List Fr} {d : Option Nat} {b i : Nat} {ap : List X} {r : List IOp} (xs : List X) (fl : Bool) : RunO O code.md (⟨d, .call 62 xs fl, none, b, i, ap⟩ :: r) fs st Q = (quietOk st (.call 62 xs fl) ap = true ∧ RunQ O code.md (callVal O st b 62 (evalXs st xs) fl) d r fs st Q) := R_call 62 xs fl rfl
theorem rcall63 {O : Oracle} {st : St} {Q : Ex → St → Prop} {fs : List Fr} {d : Option Nat} {b i : Nat} {ap : List X} {r : List IOp} (xs : List X) (fl : Bool) : RunO O code.md (⟨d, .call 63 xs fl, none, b, i, ap⟩ :: r) fs st Q = (quietOk st (.call 63 xs fl) ap = true ∧ RunQ O code.md (callVal O st b 63 (evalXs st xs) fl) d r fs st Q) := R_call 63 xs fl rfl
theorem rcall64 {O : Oracle} {st : St} {Q : Ex → St → Prop} {fs : List Fr} {d : Option Nat} {b i : Nat} {ap : List X} {r : List IOp} (xs : List X) (fl : Bool) : RunO O code.md (⟨d, .call 64 xs fl, none, b, i, ap⟩ :: r) fs st Q = (quietOk st (.call 64 xs fl) ap = true ∧ RunQ O code.md (callVal O st b 64 (evalXs st xs) fl) d r fs st Q) := R_call 64 xs fl rfl
theorem rcall65 {O : Oracle} {st : St} {Q : Ex → St → Prop} {fs : List Fr} {d : Option Nat} {b i : Nat} {ap : List X} {r : List IOp} (xs : List X) (fl : Bool) : RunO O code.md (⟨d, .call 65 xs fl, none, b, i, ap⟩ :: r) fs st Q = (quietOk st (.call 65 xs fl) ap = true ∧ RunQ O code.md (callVal O st b 65 (evalXs st xs) fl) d r fs st Q) := R_call 65 xs fl rfl
theorem rcall66 {O : Oracle} {st : St} {Q : Ex → St → Prop} {fs : List Fr} {d : Option Nat} {b i : Nat} {ap : List X} {r : List IOp} (xs : List X) (fl : Bool) : RunO O code.md (⟨d, .call 66 xs fl, none, b, i, ap⟩ :: r) fs st Q = ((apartOk st (.call 66 xs fl) ap && keyedOk st ap) = true ∧ RunK O code.md (callRef O st b 66 (evalXs st xs) fl) st (.call 66 xs fl) ap d r fs Q) := R_callr 66 xs fl rfl
theorem rcall67 {O : Oracle} {st : St} {Q : Ex → St → Prop} {fs : List Fr} {d : Option Nat} {b i : Nat} {ap : List X} {r : List IOp} (xs : List X) (fl : Bool) : RunO O code.md (⟨d, .call 67 xs fl, none, b, i, ap⟩ :: r) fs st Q = ((apartOk st (.call 67 xs fl) ap && keyedOk st ap) = true ∧ RunK O code.md (callRef O st b 67 (evalXs st xs) fl) st (.call 67 xs fl) ap d r fs Q) := R_callr 67 xs fl rfl
theorem rcall68 {O : Oracle} {st : St} {Q : Ex → St → Prop} {fs : List Fr} {d : Option Nat} {b i : Nat} {ap : List X} {r : List IOp} (xs : List X) (fl : Bool) : RunO O code.md (⟨d, .call 68 xs fl, none, b, i, ap⟩ :: r) fs st Q = (quietOk st (.call 68 xs fl) ap = true ∧ RunQ O code.md (callVal O st b 68 (evalXs st xs) fl) d r fs st Q) := R_call 68 xs fl rfl
theorem rcall70 {O : Oracle} {st : St} {Q : Ex → St → Prop} {fs : List Fr} {d : Option Nat} {b i : Nat} {ap : List X} {r : List IOp} (xs : List X) (fl : Bool) : RunO O code.md (⟨d, .call 70 xs fl, none, b, i, ap⟩ :: r) fs st Q = (quietOk st (.call 70 xs fl) ap = true ∧ RunQ O code.md (callVal O st b 70 (evalXs st xs) fl) d r fs st Q) := R_call 70 xs fl rfl
theorem rcall71 {O : Oracle} {st : St} {Q : Ex → St → Prop} {fs : List Fr} {d : Option Nat} {b i : Nat} {ap : List X} {r : List IOp} (xs : List X) (fl : Bool) : RunO O code.md (⟨d, .call 71 xs fl, none, b, i, ap⟩ :: r) fs st Q = ((apartOk st (.call 71 xs fl) ap && keyedOk st ap) = true ∧ RunK O code.md (callRef O st b 71 (evalXs st xs) fl) st (.call 71 xs fl) ap d r fs Q) := R_callr 71 xs fl rfl
theorem rcall72 {O : Oracle} {st : St} {Q : Ex → St → Prop} {fs : List Fr} {d : Option Nat} {b i : Nat} {ap : List X} {r : List IOp} (xs : List X) (fl : Bool) : RunO O code.md (⟨d, .call 72 xs fl, none, b, i, ap⟩ :: r) fs st Q = ((apartOk st (.call 72 xs fl) ap && keyedOk st ap) = true ∧ RunK O code.md (callRef O st b 72 (evalXs st xs) fl) st (.call 72 xs fl) ap d r fs Q) := R_callr 72 xs fl rfl
theorem rcall73 {O : Oracle} {st : St} {Q : Ex → St → Prop} {fs : List Fr} {d : Option Nat} {b i : Nat} {ap : List X} {r : List IOp} (xs : List X) (fl : Bool) : RunO O code.md (⟨d, .call 73 xs fl, none, b, i, ap⟩ :: r) fs st Q = (quietOk st (.call 73 xs fl) ap = true ∧ RunQ O code.md (callVal O st b 73 (evalXs st xs) fl) d r fs st Q) := R_call 73 xs fl rfl
theorem rcall74 {O : Oracle} {st : St} {Q : Ex → St → Prop} {fs : List Fr} {d : Option Nat} {b i : Nat} {ap : List X} {r : List IOp} (xs : List X) (fl : Bool) : RunO O code.md (⟨d, .call 74 xs fl, none, b, i, ap⟩ :: r) fs st Q = ((apartOk st (.call 74 xs fl) ap && keyedOk st ap) = true ∧ RunK O code.md (callRef O st b 74 (evalXs st xs) fl) st (.call 74 xs fl) ap d r fs Q) := R_callr 74 xs fl rfl
theorem rcall75 {O : Oracle} {st : St} {Q : Ex → St → Prop} {fs : List Fr} {d : Option Nat} {b i : Nat} {ap : List X} {r : List IOp} (xs : List X) (fl : Bool) : RunO O code.md (⟨d, .call 75 xs fl, none, b, i, ap⟩ :: r) fs st Q = ((apartOk st (.call 75 xs fl) ap && keyedOk st ap) = true ∧ RunK O code.md (callRef O st b 75 (evalXs st xs) fl) st (.call 75 xs fl) ap d r fs Q) := R_callr 75 xs fl rfl
theorem rcall76 {O : Oracle} {st : St} {Q : Ex → St → Prop} {fs : List Fr} {d : Option Nat} {b i : Nat} {ap : List X} {r : List IOp} (xs : List X) (fl : Bool) : RunO O code.md (⟨d, .call 76 xs fl, none, b, i, ap⟩ :: r) fs st Q = (quietOk st (.call 76 xs fl) ap = true ∧ RunQ O code.md (callVal O st b 76 (evalXs st xs) fl) d r fs st Q) := R_call 76 xs fl rfl
theorem rcall77 {O : Oracle} {st : St} {Q : Ex → St → Prop} {fs : List Fr} {d : Option Nat} {b i : Nat} {ap : List X} {r : List IOp} (xs : List X) (fl : Bool) : RunO O code.md (⟨d, .call 77 xs fl, none, b, i, ap⟩ :: r) fs st Q = (quietOk st (.call 77 xs fl) ap = true ∧ RunQ O code.md (callVal O st b 77 (evalXs st xs) fl) d r fs st Q) := R_call 77 xs fl rfl
theorem rcall84 {O : Oracle} {st : St} {Q : Ex → St → Prop} {fs : List Fr} {d : Option Nat} {b i : Nat} {ap : List X} {r : List IOp} (xs : List X) (fl : Bool) : RunO O code.md (⟨d, .call 84 xs fl, none, b, i, ap⟩ :: r) fs st Q = (quietOk st (.call 84 xs fl) ap = true ∧ RunQ O code.md (callVal O st b 84 (evalXs st xs) fl) d r fs st Q) := R_call 84 xs fl rfl
theorem rcall90 {O : Oracle} {st : St} {Q : Ex → St → Prop} {fs : List Fr} {d : Option Nat} {b i : Nat} {ap : List X} {r : List IOp} (xs : List X) (fl : Bool) : RunO O code.md (⟨d, .call 90 xs fl, none, b, i, ap⟩ :: r) fs st Q = (quietOk st (.call 90 xs fl) ap = true ∧ RunQ O code.md (callVal O st b 90 (evalXs st xs) fl) d r fs st Q) := R_call 90 xs fl rfl
theorem rcall91 {O : Oracle} {st : St} {Q : Ex → St → Prop} {fs : List Fr} {d : Option Nat} {b i : Nat} {ap : List X} {r : List IOp} (xs : List X) (fl : Bool) : RunO O code.md (⟨d, .call 91 xs fl, none, b, i, ap⟩ :: r) fs st Q = (quietOk st (.call 91 xs fl) ap = true ∧ RunQ O code.md (callVal O st b 91 (evalXs st xs) fl) d r fs st Q) := R_call 91 xs fl rfl
end Go.Ae.M2
