/- The code of the functions, for the evaluator. -/
import Derived.Test.YtbnfbihdcpdkkaaAeL6
namespace Go.Ae.R4

def md : Nat → Mode
  | 32 => .ref
  | 33 => .ref
  | 37 => .ref
  | 38 => .ref
  | 58 => .ref
  | _ => .val
/-- loop.example/g00849/laws.FnRotDisk -/
def F3 : F := ⟨2, 120, [.t 4],
 .seq (.reg [⟨(some 4), .mv (.k (.bool false)), none, 0, 0, []⟩])
 (.seq (.seq (.reg [⟨(some 16), .mv (.t 0), none, 65536, 0, []⟩,
   ⟨(some 17), .mv (.t 1), none, 65792, 1, []⟩,
   ⟨(some 18), .call 8 [(.t 16), (.t 17)] true, none, 66048, 2, []⟩])
 (.cond (.t 18)
  (.seq (.reg [⟨(some 4), .mv (.k (.bool true)), none, 131072, 0, []⟩])
  (.ret))
  (.skip)))
 (.seq (.reg [⟨(some 20), .mv (.t 0), none, 196608, 0, []⟩,
   ⟨(some 21), .call 9 [(.t 20)] false, none, 196864, 1, []⟩,
   ⟨(some 19), .mv (.t 21), none, 197120, 2, []⟩,
   ⟨(some 22), .ext (.t 19) 0, none, 197376, 3, []⟩,
   ⟨(some 23), .ext (.t 19) 1, none, 197632, 4, []⟩,
   ⟨(some 24), .ext (.t 19) 2, none, 197888, 5, []⟩,
   ⟨(some 25), .ext (.t 19) 3, none, 198144, 6, []⟩,
   ⟨(some 5), .alloc [(.nil true 1), (.nil true 2)], none, 198400, 7, []⟩,
   ⟨none, .store 2 (.t 5) (.t 22), none, 198656, 8, []⟩,
   ⟨(some 6), .mv (.t 23), none, 198912, 9, []⟩,
   ⟨(some 7), .mv (.t 24), none, 199168, 10, []⟩,
   ⟨(some 8), .mv (.t 25), none, 199424, 11, []⟩])
 (.seq (.reg [⟨(some 27), .load 2 true (.t 5), none, 262144, 0, []⟩,
   ⟨(some 28), .mv (.t 6), none, 262400, 1, []⟩,
   ⟨(some 29), .mv (.t 7), none, 262656, 2, []⟩,
   ⟨(some 30), .mv (.t 8), none, 262912, 3, []⟩,
   ⟨(some 31), .call 10 [(.t 27), (.t 28), (.t 29), (.t 30)] false, none, 263168, 4, []⟩,
   ⟨(some 26), .mv (.t 31), none, 263424, 5, []⟩,
   ⟨(some 32), .ext (.t 26) 0, none, 263680, 6, []⟩,
   ⟨(some 33), .ext (.t 26) 1, none, 263936, 7, []⟩,
   ⟨(some 9), .alloc [(.nil true 1), (.nil true 2)], none, 264192, 8, []⟩,
   ⟨none, .store 2 (.t 9) (.t 32), none, 264448, 9, []⟩,
   ⟨(some 10), .mv (.t 33), none, 264704, 10, []⟩])
 (.seq (.seq (.reg [⟨(some 34), .mv (.t 10), none, 327680, 0, []⟩,
   ⟨(some 35), .bin .neq (.t 34) (.k (.int .i64 0)), none, 327936, 1, []⟩])
 (.cond (.t 35)
  (.seq (.reg [⟨(some 4), .mv (.k (.bool true)), none, 393216, 0, []⟩])
  (.ret))
  (.skip)))
 (.seq (.reg [⟨(some 37), .load 2 true (.t 9), none, 458752, 0, []⟩,
   ⟨(some 38), .mv (.t 6), none, 459008, 1, []⟩,
   ⟨(some 39), .mv (.t 7), none, 459264, 2, []⟩,
   ⟨(some 40), .mv (.t 8), none, 459520, 3, []⟩,
   ⟨(some 41), .call 10 [(.t 37), (.t 38), (.t 39), (.t 40)] false, none, 459776, 4, []⟩,
   ⟨(some 36), .mv (.t 41), none, 460032, 5, []⟩,
   ⟨(some 42), .ext (.t 36) 0, none, 460288, 6, []⟩,
   ⟨(some 43), .ext (.t 36) 1, none, 460544, 7, []⟩,
   ⟨(some 11), .alloc [(.nil true 1), (.nil true 2)], none, 460800, 8, []⟩,
   ⟨none, .store 2 (.t 11) (.t 42), none, 461056, 9, []⟩,
   ⟨(some 12), .mv (.t 43), none, 461312, 10, []⟩])
 (.seq (.seq (.reg [⟨(some 44), .mv (.t 12), none, 524288, 0, []⟩,
   ⟨(some 45), .bin .neq (.t 44) (.k (.int .i64 0)), none, 524544, 1, []⟩,
   ⟨(some 46), .mv (.t 45), none, 524800, 2, []⟩,
   ⟨(some 47), .faddr 0 (.t 11), (some (some 46, false)), 525056, 3, []⟩,
   ⟨(some 48), .load 1 false (.t 47), (some (some 46, false)), 525312, 4, []⟩,
   ⟨(some 49), .faddr 0 (.t 5), (some (some 46, false)), 525568, 5, []⟩,
   ⟨(some 50), .load 1 false (.t 49), (some (some 46, false)), 525824, 6, []⟩,
   ⟨(some 51), .call 11 [(.t 48), (.t 50)] true, (some (some 46, false)), 526080, 7, []⟩,
   ⟨(some 52), .not (.t 51), (some (some 46, false)), 526336, 8, []⟩,
   ⟨(some 53), .pick (.t 46) (.k (.bool true)) (.t 52), none, 526592, 9, []⟩,
   ⟨(some 54), .mv (.t 53), none, 526848, 10, []⟩,
   ⟨(some 55), .faddr 0 (.t 9), (some (some 54, false)), 527104, 11, []⟩,
   ⟨(some 56), .load 1 false (.t 55), (some (some 54, false)), 527360, 12, []⟩,
   ⟨(some 57), .len false (.t 56), (some (some 54, false)), 527616, 13, []⟩,
   ⟨(some 58), .faddr 0 (.t 5), (some (some 54, false)), 527872, 14, []⟩,
   ⟨(some 59), .load 1 false (.t 58), (some (some 54, false)), 528128, 15, []⟩,
   ⟨(some 60), .len false (.t 59), (some (some 54, false)), 528384, 16, []⟩,
   ⟨(some 61), .bin .neq (.t 57) (.t 60), (some (some 54, false)), 528640, 17, []⟩,
   ⟨(some 62), .pick (.t 54) (.k (.bool true)) (.t 61), none, 528896, 18, []⟩])
 (.cond (.t 62)
  (.seq (.reg [⟨(some 4), .mv (.k (.bool false)), none, 589824, 0, []⟩])
  (.ret))
  (.skip)))
 (.seq (.seq (.reg [⟨(some 13), .mv (.k (.int .i64 0)), none, 655360, 0, []⟩])
 (.block 0 (.loop [5, 6, 7, 9, 13] [196864, 196865, 196866, 196867, 198400, 198401, 198402, 198657, 198658, 263168, 263169, 263170, 263171, 264192, 264193, 264194, 264449, 264450, 459776, 459777, 459778, 459779, 460800, 460801, 460802, 461057, 461058]
  (.seq (.seq (.reg [⟨(some 63), .mv (.t 13), none, 720896, 0, []⟩,
    ⟨(some 64), .faddr 0 (.t 5), none, 721152, 1, []⟩,
    ⟨(some 65), .load 1 false (.t 64), none, 721408, 2, []⟩,
    ⟨(some 66), .len false (.t 65), none, 721664, 3, []⟩,
    ⟨(some 67), .bin .lss (.t 63) (.t 66), none, 721920, 4, []⟩])
  (.cond (.t 67)
   (.skip)
   (.exit 0)))
  (.seq (.block 1 (.seq (.reg [⟨(some 14), .mv (.k (.int .i64 0)), none, 851968, 0, []⟩])
  (.block 2 (.loop [5, 6, 7, 9, 13, 14] [196864, 196865, 196866, 196867, 198400, 198401, 198402, 198657, 198658, 263168, 263169, 263170, 263171, 264192, 264193, 264194, 264449, 264450, 459776, 459777, 459778, 459779, 460800, 460801, 460802, 461057, 461058]
   (.seq (.seq (.reg [⟨(some 70), .mv (.t 14), none, 917504, 0, []⟩,
     ⟨(some 71), .faddr 0 (.t 5), none, 917760, 1, []⟩,
     ⟨(some 72), .load 1 false (.t 71), none, 918016, 2, []⟩,
     ⟨(some 73), .mv (.t 13), none, 918272, 3, []⟩,
     ⟨(some 74), .iaddr 1 (.t 72) (.t 73), none, 918528, 4, []⟩,
     ⟨(some 75), .load 1 false (.t 74), none, 918784, 5, []⟩,
     ⟨(some 76), .len true (.t 75), none, 919040, 6, []⟩,
     ⟨(some 77), .bin .lss (.t 70) (.t 76), none, 919296, 7, []⟩])
   (.cond (.t 77)
    (.skip)
    (.exit 2)))
   (.seq (.block 3 (.seq (.reg [⟨(some 80), .mv (.t 13), none, 1048576, 0, []⟩,
     ⟨(some 81), .mv (.t 6), none, 1048832, 1, []⟩,
     ⟨(some 82), .bin .eql (.t 80) (.t 81), none, 1049088, 2, []⟩,
     ⟨(some 83), .mv (.t 82), none, 1049344, 3, []⟩,
     ⟨(some 84), .mv (.t 14), (some (some 83, true)), 1049600, 4, []⟩,
     ⟨(some 85), .mv (.t 7), (some (some 83, true)), 1049856, 5, []⟩,
     ⟨(some 86), .bin .eql (.t 84) (.t 85), (some (some 83, true)), 1050112, 6, []⟩,
     ⟨(some 87), .pick (.t 83) (.t 86) (.k (.bool false)), none, 1050368, 7, []⟩,
     ⟨(some 15), .mv (.t 87), none, 1050624, 8, []⟩])
   (.seq (.reg [⟨(some 88), .faddr 0 (.t 9), none, 1114112, 0, []⟩,
     ⟨(some 89), .load 1 false (.t 88), none, 1114368, 1, []⟩,
     ⟨(some 90), .mv (.t 13), none, 1114624, 2, []⟩,
     ⟨(some 91), .iaddr 1 (.t 89) (.t 90), none, 1114880, 3, []⟩,
     ⟨(some 92), .load 1 false (.t 91), none, 1115136, 4, []⟩,
     ⟨(some 93), .len true (.t 92), none, 1115392, 5, []⟩,
     ⟨(some 94), .faddr 0 (.t 5), none, 1115648, 6, []⟩,
     ⟨(some 95), .load 1 false (.t 94), none, 1115904, 7, []⟩,
     ⟨(some 96), .mv (.t 13), none, 1116160, 8, []⟩,
     ⟨(some 97), .iaddr 1 (.t 95) (.t 96), none, 1116416, 9, []⟩,
     ⟨(some 98), .load 1 false (.t 97), none, 1116672, 10, []⟩,
     ⟨(some 99), .len true (.t 98), none, 1116928, 11, []⟩,
     ⟨(some 100), .bin .neq (.t 93) (.t 99), none, 1117184, 12, []⟩,
     ⟨(some 101), .mv (.t 100), none, 1117440, 13, []⟩,
     ⟨(some 102), .mv (.t 15), (some (some 101, false)), 1117696, 14, []⟩,
     ⟨(some 103), .faddr 0 (.t 9), (some (some 101, false)), 1117952, 15, []⟩,
     ⟨(some 104), .load 1 false (.t 103), (some (some 101, false)), 1118208, 16, []⟩,
     ⟨(some 105), .mv (.t 13), (some (some 101, false)), 1118464, 17, []⟩,
     ⟨(some 106), .iaddr 1 (.t 104) (.t 105), (some (some 101, false)), 1118720, 18, []⟩,
     ⟨(some 107), .load 1 false (.t 106), (some (some 101, false)), 1118976, 19, []⟩,
     ⟨(some 108), .mv (.t 14), (some (some 101, false)), 1119232, 20, []⟩,
     ⟨(some 109), .idx (.t 107) (.t 108), (some (some 101, false)), 1119488, 21, []⟩,
     ⟨(some 110), .faddr 0 (.t 5), (some (some 101, false)), 1119744, 22, []⟩,
     ⟨(some 111), .load 1 false (.t 110), (some (some 101, false)), 1120000, 23, []⟩,
     ⟨(some 112), .mv (.t 13), (some (some 101, false)), 1120256, 24, []⟩,
     ⟨(some 113), .iaddr 1 (.t 111) (.t 112), (some (some 101, false)), 1120512, 25, []⟩,
     ⟨(some 114), .load 1 false (.t 113), (some (some 101, false)), 1120768, 26, []⟩,
     ⟨(some 115), .mv (.t 14), (some (some 101, false)), 1121024, 27, []⟩,
     ⟨(some 116), .idx (.t 114) (.t 115), (some (some 101, false)), 1121280, 28, []⟩,
     ⟨(some 117), .bin .eql (.t 109) (.t 116), (some (some 101, false)), 1121536, 29, []⟩,
     ⟨(some 118), .eqv false false [.b] (.t 102) (.t 117), (some (some 101, false)), 1121792, 30, []⟩,
     ⟨(some 119), .pick (.t 101) (.k (.bool true)) (.t 118), none, 1122048, 31, []⟩])
   (.cond (.t 119)
    (.seq (.reg [⟨(some 4), .mv (.k (.bool false)), none, 1179648, 0, []⟩])
    (.ret))
    (.skip)))))
   (.reg [⟨(some 78), .mv (.t 14), none, 983040, 0, []⟩,
     ⟨(some 79), .bin .add (.t 78) (.k (.int .i64 1)), none, 983296, 1, []⟩,
     ⟨(some 14), .mv (.t 79), none, 983552, 2, []⟩])))))))
  (.reg [⟨(some 68), .mv (.t 13), none, 786432, 0, []⟩,
    ⟨(some 69), .bin .add (.t 68) (.k (.int .i64 1)), none, 786688, 1, []⟩,
    ⟨(some 13), .mv (.t 69), none, 786944, 2, []⟩]))))))
 (.seq (.reg [⟨(some 4), .mv (.k (.bool true)), none, 1245184, 0, []⟩])
 (.ret)))))))))⟩
/-- loop.example/g00849/laws.FnTorn -/
def F4 : F := ⟨2, 119, [.t 4],
 .seq (.reg [⟨(some 4), .mv (.k (.bool false)), none, 0, 0, []⟩])
 (.seq (.seq (.reg [⟨(some 14), .mv (.t 0), none, 65536, 0, []⟩,
   ⟨(some 15), .mv (.t 1), none, 65792, 1, []⟩,
   ⟨(some 16), .call 8 [(.t 14), (.t 15)] true, none, 66048, 2, []⟩])
 (.cond (.t 16)
  (.seq (.reg [⟨(some 4), .mv (.k (.bool true)), none, 131072, 0, []⟩])
  (.ret))
  (.skip)))
 (.seq (.reg [⟨(some 18), .mv (.t 0), none, 196608, 0, []⟩,
   ⟨(some 19), .call 12 [(.t 18)] false, none, 196864, 1, []⟩,
   ⟨(some 17), .mv (.t 19), none, 197120, 2, []⟩,
   ⟨(some 20), .ext (.t 17) 0, none, 197376, 3, []⟩,
   ⟨(some 21), .ext (.t 17) 1, none, 197632, 4, []⟩,
   ⟨(some 22), .ext (.t 17) 2, none, 197888, 5, []⟩,
   ⟨(some 5), .alloc [(.nil true 1), (.nil true 2)], none, 198144, 6, []⟩,
   ⟨none, .store 2 (.t 5) (.t 20), none, 198400, 7, []⟩,
   ⟨(some 6), .mv (.t 21), none, 198656, 8, []⟩,
   ⟨(some 7), .mv (.t 22), none, 198912, 9, []⟩])
 (.seq (.seq (.reg [⟨(some 23), .load 2 true (.t 5), none, 262144, 0, []⟩,
   ⟨(some 24), .call 13 [(.t 23)] true, none, 262400, 1, []⟩,
   ⟨(some 25), .not (.t 24), none, 262656, 2, []⟩])
 (.cond (.t 25)
  (.seq (.reg [⟨(some 4), .mv (.k (.bool true)), none, 327680, 0, []⟩])
  (.ret))
  (.skip)))
 (.seq (.reg [⟨(some 26), .load 2 true (.t 5), none, 393216, 0, []⟩,
   ⟨(some 27), .call 14 [(.t 26)] false, none, 393472, 1, []⟩,
   ⟨none, .store 2 (.t 5) (.t 27), none, 393728, 2, []⟩])
 (.seq (.reg [⟨(some 29), .load 2 true (.t 5), none, 458752, 0, []⟩,
   ⟨(some 30), .mv (.t 6), none, 459008, 1, []⟩,
   ⟨(some 31), .mv (.t 7), none, 459264, 2, []⟩,
   ⟨(some 32), .call 15 [(.t 29), (.t 30), (.t 31)] false, none, 459520, 3, []⟩,
   ⟨(some 28), .mv (.t 32), none, 459776, 4, []⟩,
   ⟨(some 33), .ext (.t 28) 0, none, 460032, 5, []⟩,
   ⟨(some 34), .ext (.t 28) 1, none, 460288, 6, []⟩,
   ⟨(some 8), .alloc [(.nil true 1), (.nil true 2)], none, 460544, 7, []⟩,
   ⟨none, .store 2 (.t 8) (.t 33), none, 460800, 8, []⟩,
   ⟨(some 9), .mv (.t 34), none, 461056, 9, []⟩])
 (.seq (.seq (.reg [⟨(some 35), .mv (.t 6), none, 524288, 0, []⟩,
   ⟨(some 36), .bin .lss (.t 35) (.k (.int .i64 0)), none, 524544, 1, []⟩,
   ⟨(some 37), .mv (.t 36), none, 524800, 2, []⟩,
   ⟨(some 38), .mv (.t 6), (some (some 37, false)), 525056, 3, []⟩,
   ⟨(some 39), .faddr 0 (.t 5), (some (some 37, false)), 525312, 4, []⟩,
   ⟨(some 40), .load 1 false (.t 39), (some (some 37, false)), 525568, 5, []⟩,
   ⟨(some 41), .len false (.t 40), (some (some 37, false)), 525824, 6, []⟩,
   ⟨(some 42), .bin .geq (.t 38) (.t 41), (some (some 37, false)), 526080, 7, []⟩,
   ⟨(some 43), .pick (.t 37) (.k (.bool true)) (.t 42), none, 526336, 8, []⟩,
   ⟨(some 44), .mv (.t 43), none, 526592, 9, []⟩,
   ⟨(some 45), .mv (.t 7), (some (some 44, false)), 526848, 10, []⟩,
   ⟨(some 46), .len true (.t 45), (some (some 44, false)), 527104, 11, []⟩,
   ⟨(some 47), .bin .neq (.t 46) (.k (.int .i64 64)), (some (some 44, false)), 527360, 12, []⟩,
   ⟨(some 48), .pick (.t 44) (.k (.bool true)) (.t 47), none, 527616, 13, []⟩])
 (.cond (.t 48)
  (.seq (.reg [⟨(some 49), .mv (.t 9), none, 589824, 0, []⟩,
    ⟨(some 50), .bin .neq (.t 49) (.k (.int .i64 0)), none, 590080, 1, []⟩,
    ⟨(some 4), .mv (.t 50), none, 590336, 2, []⟩])
  (.ret))
  (.skip)))
 (.seq (.seq (.reg [⟨(some 51), .mv (.t 9), none, 655360, 0, []⟩,
   ⟨(some 52), .bin .neq (.t 51) (.k (.int .i64 0)), none, 655616, 1, []⟩])
 (.cond (.t 52)
  (.seq (.reg [⟨(some 4), .mv (.k (.bool true)), none, 720896, 0, []⟩])
  (.ret))
  (.skip)))
 (.seq (.reg [⟨(some 53), .mv (.t 1), none, 786432, 0, []⟩,
   ⟨(some 54), .call 16 [(.t 53), (.k (.int .i64 0)), (.k (.int .i64 65))] true, none, 786688, 1, []⟩,
   ⟨(some 10), .mv (.t 54), none, 786944, 2, []⟩])
 (.seq (.reg [⟨(some 56), .load 2 true (.t 8), none, 851968, 0, []⟩,
   ⟨(some 57), .bslice true 1 [(.int .i64 0)] 1 [(0, (.k (.int .i64 0)))], none, 852224, 1, []⟩,
   ⟨(some 58), .mv (.t 10), none, 852480, 2, []⟩,
   ⟨(some 59), .call 17 [(.t 56), (.t 57), (.t 58)] false, none, 852736, 3, []⟩,
   ⟨(some 55), .mv (.t 59), none, 852992, 4, []⟩,
   ⟨(some 60), .ext (.t 55) 0, none, 853248, 5, []⟩,
   ⟨(some 61), .ext (.t 55) 1, none, 853504, 6, []⟩,
   ⟨(some 11), .alloc [(.nil true 1), (.nil true 2)], none, 853760, 7, []⟩,
   ⟨none, .store 2 (.t 11) (.t 60), none, 854016, 8, []⟩,
   ⟨(some 12), .mv (.t 61), none, 854272, 9, []⟩])
 (.seq (.seq (.reg [⟨(some 62), .mv (.t 12), none, 917504, 0, []⟩,
   ⟨(some 63), .bin .neq (.t 62) (.k (.int .i64 0)), none, 917760, 1, []⟩,
   ⟨(some 64), .mv (.t 63), none, 918016, 2, []⟩,
   ⟨(some 65), .faddr 0 (.t 11), (some (some 64, false)), 918272, 3, []⟩,
   ⟨(some 66), .load 1 false (.t 65), (some (some 64, false)), 918528, 4, []⟩,
   ⟨(some 67), .len false (.t 66), (some (some 64, false)), 918784, 5, []⟩,
   ⟨(some 68), .faddr 0 (.t 5), (some (some 64, false)), 919040, 6, []⟩,
   ⟨(some 69), .load 1 false (.t 68), (some (some 64, false)), 919296, 7, []⟩,
   ⟨(some 70), .len false (.t 69), (some (some 64, false)), 919552, 8, []⟩,
   ⟨(some 71), .bin .neq (.t 67) (.t 70), (some (some 64, false)), 919808, 9, []⟩,
   ⟨(some 72), .pick (.t 64) (.k (.bool true)) (.t 71), none, 920064, 10, []⟩,
   ⟨(some 73), .mv (.t 72), none, 920320, 11, []⟩,
   ⟨(some 74), .faddr 1 (.t 11), (some (some 73, false)), 920576, 12, []⟩,
   ⟨(some 75), .load 1 false (.t 74), (some (some 73, false)), 920832, 13, []⟩,
   ⟨(some 76), .len false (.t 75), (some (some 73, false)), 921088, 14, []⟩,
   ⟨(some 77), .bin .neq (.t 76) (.k (.int .i64 0)), (some (some 73, false)), 921344, 15, []⟩,
   ⟨(some 78), .pick (.t 73) (.k (.bool true)) (.t 77), none, 921600, 16, []⟩])
 (.cond (.t 78)
  (.seq (.reg [⟨(some 4), .mv (.k (.bool false)), none, 983040, 0, []⟩])
  (.ret))
  (.skip)))
 (.seq (.seq (.reg [⟨(some 13), .mv (.k (.int .i64 0)), none, 1048576, 0, []⟩])
 (.block 0 (.loop [5, 6, 7, 10, 11, 13] [196864, 196865, 196866, 196867, 198144, 198145, 198146, 198401, 198402, 393472, 393473, 393474, 393475, 393729, 393730, 459520, 459521, 459522, 459523, 460544, 460545, 460546, 460801, 460802, 852224, 852736, 852737, 852738, 852739, 853760, 853761, 853762, 854017, 854018]
  (.seq (.seq (.reg [⟨(some 79), .mv (.t 13), none, 1114112, 0, []⟩,
    ⟨(some 80), .faddr 0 (.t 5), none, 1114368, 1, []⟩,
    ⟨(some 81), .load 1 false (.t 80), none, 1114624, 2, []⟩,
    ⟨(some 82), .len false (.t 81), none, 1114880, 3, []⟩,
    ⟨(some 83), .bin .lss (.t 79) (.t 82), none, 1115136, 4, []⟩])
  (.cond (.t 83)
   (.skip)
   (.exit 0)))
  (.seq (.block 1 (.seq (.reg [⟨(some 86), .mv (.t 13), none, 1245184, 0, []⟩,
    ⟨(some 87), .mv (.t 6), none, 1245440, 1, []⟩,
    ⟨(some 88), .bin .neq (.t 86) (.t 87), none, 1245696, 2, []⟩,
    ⟨(some 89), .mv (.t 88), none, 1245952, 3, []⟩,
    ⟨(some 90), .faddr 0 (.t 11), (some (some 89, true)), 1246208, 4, []⟩,
    ⟨(some 91), .load 1 false (.t 90), (some (some 89, true)), 1246464, 5, []⟩,
    ⟨(some 92), .mv (.t 13), (some (some 89, true)), 1246720, 6, []⟩,
    ⟨(some 93), .iaddr 1 (.t 91) (.t 92), (some (some 89, true)), 1246976, 7, []⟩,
    ⟨(some 94), .load 1 false (.t 93), (some (some 89, true)), 1247232, 8, []⟩,
    ⟨(some 95), .faddr 0 (.t 5), (some (some 89, true)), 1247488, 9, []⟩,
    ⟨(some 96), .load 1 false (.t 95), (some (some 89, true)), 1247744, 10, []⟩,
    ⟨(some 97), .mv (.t 13), (some (some 89, true)), 1248000, 11, []⟩,
    ⟨(some 98), .iaddr 1 (.t 96) (.t 97), (some (some 89, true)), 1248256, 12, []⟩,
    ⟨(some 99), .load 1 false (.t 98), (some (some 89, true)), 1248512, 13, []⟩,
    ⟨(some 100), .bin .neq (.t 94) (.t 99), (some (some 89, true)), 1248768, 14, []⟩,
    ⟨(some 101), .pick (.t 89) (.t 100) (.k (.bool false)), none, 1249024, 15, []⟩])
  (.cond (.t 101)
   (.seq (.reg [⟨(some 4), .mv (.k (.bool false)), none, 1310720, 0, []⟩])
   (.ret))
   (.skip))))
  (.reg [⟨(some 84), .mv (.t 13), none, 1179648, 0, []⟩,
    ⟨(some 85), .bin .add (.t 84) (.k (.int .i64 1)), none, 1179904, 1, []⟩,
    ⟨(some 13), .mv (.t 85), none, 1180160, 2, []⟩]))))))
 (.seq (.reg [⟨(some 102), .faddr 0 (.t 11), none, 1376256, 0, []⟩,
   ⟨(some 103), .load 1 false (.t 102), none, 1376512, 1, []⟩,
   ⟨(some 104), .mv (.t 6), none, 1376768, 2, []⟩,
   ⟨(some 105), .iaddr 1 (.t 103) (.t 104), none, 1377024, 3, []⟩,
   ⟨(some 106), .load 1 false (.t 105), none, 1377280, 4, []⟩,
   ⟨(some 107), .mv (.t 7), none, 1377536, 5, []⟩,
   ⟨(some 108), .mv (.t 10), none, 1377792, 6, []⟩,
   ⟨(some 109), .scut (.t 107) none (some (.t 108)), none, 1378048, 7, []⟩,
   ⟨(some 110), .faddr 0 (.t 5), none, 1378304, 8, []⟩,
   ⟨(some 111), .load 1 false (.t 110), none, 1378560, 9, []⟩,
   ⟨(some 112), .mv (.t 6), none, 1378816, 10, []⟩,
   ⟨(some 113), .iaddr 1 (.t 111) (.t 112), none, 1379072, 11, []⟩,
   ⟨(some 114), .load 1 false (.t 113), none, 1379328, 12, []⟩,
   ⟨(some 115), .mv (.t 10), none, 1379584, 13, []⟩,
   ⟨(some 116), .scut (.t 114) (some (.t 115)) none, none, 1379840, 14, []⟩,
   ⟨(some 117), .bin .add (.t 109) (.t 116), none, 1380096, 15, []⟩,
   ⟨(some 118), .bin .eql (.t 106) (.t 117), none, 1380352, 16, []⟩,
   ⟨(some 4), .mv (.t 118), none, 1380608, 17, []⟩])
 (.ret)))))))))))))⟩
/-- loop.example/g00849/laws.b10Long -/
def F8 : F := ⟨2, 13, [.t 4],
 .seq (.reg [⟨(some 4), .mv (.k (.bool false)), none, 0, 0, []⟩])
 (.seq (.reg [⟨(some 5), .mv (.t 0), none, 65536, 0, []⟩,
   ⟨(some 6), .len false (.t 5), none, 65792, 1, []⟩,
   ⟨(some 7), .bin .gtr (.t 6) (.k (.int .i64 1048576)), none, 66048, 2, []⟩,
   ⟨(some 8), .mv (.t 7), none, 66304, 3, []⟩,
   ⟨(some 9), .mv (.t 1), (some (some 8, false)), 66560, 4, []⟩,
   ⟨(some 10), .len false (.t 9), (some (some 8, false)), 66816, 5, []⟩,
   ⟨(some 11), .bin .gtr (.t 10) (.k (.int .i64 1048576)), (some (some 8, false)), 67072, 6, []⟩,
   ⟨(some 12), .pick (.t 8) (.k (.bool true)) (.t 11), none, 67328, 7, []⟩,
   ⟨(some 4), .mv (.t 12), none, 67584, 8, []⟩])
 (.ret))⟩
/-- loop.example/g00849/spec.DrawRotSector -/
def F9 : F := ⟨1, 23, [.cell 2 2 true, .t 3, .t 4, .t 5],
 .seq (.reg [⟨(some 2), .alloc [(.nil true 1), (.nil true 2)], none, 0, 0, []⟩,
   ⟨(some 3), .mv (.k (.int .i64 0)), none, 256, 1, []⟩,
   ⟨(some 4), .mv (.k (.int .i64 0)), none, 512, 2, []⟩,
   ⟨(some 5), .mv (.k (.int .i64 0)), none, 768, 3, []⟩])
 (.seq (.reg [⟨(some 10), .mv (.t 0), none, 65536, 0, []⟩,
   ⟨(some 11), .call 31 [(.t 10)] false, none, 65792, 1, []⟩,
   ⟨(some 6), .mv (.t 11), none, 66048, 2, []⟩])
 (.seq (.reg [⟨(some 12), .mv (.t 6), none, 131072, 0, []⟩,
   ⟨(some 13), .call 32 [(.t 12), (.k (.int .i64 6))] true, none, 131328, 1, []⟩,
   ⟨(some 14), .mv (.t 6), none, 131584, 2, []⟩,
   ⟨(some 15), .call 32 [(.t 14), (.k (.int .i64 65))] true, none, 131840, 3, []⟩,
   ⟨(some 16), .mv (.t 6), none, 132096, 4, []⟩,
   ⟨(some 17), .call 32 [(.t 16), (.k (.int .i64 257))] true, none, 132352, 5, []⟩,
   ⟨(some 7), .mv (.t 13), none, 132608, 6, []⟩,
   ⟨(some 8), .mv (.t 15), none, 132864, 7, []⟩,
   ⟨(some 9), .mv (.t 17), none, 133120, 8, []⟩])
 (.seq (.reg [⟨(some 18), .mv (.t 6), none, 196608, 0, []⟩,
   ⟨(some 19), .call 33 [(.t 18)] false, none, 196864, 1, []⟩,
   ⟨(some 20), .mv (.t 7), none, 197120, 2, []⟩,
   ⟨(some 21), .mv (.t 8), none, 197376, 3, []⟩,
   ⟨(some 22), .mv (.t 9), none, 197632, 4, []⟩,
   ⟨none, .store 2 (.t 2) (.t 19), none, 197888, 5, []⟩,
   ⟨(some 3), .mv (.t 20), none, 198144, 6, []⟩,
   ⟨(some 4), .mv (.t 21), none, 198400, 7, []⟩,
   ⟨(some 5), .mv (.t 22), none, 198656, 8, []⟩])
 (.ret))))⟩
/-- loop.example/g00849/impl.RotSector -/
def F10 : F := ⟨4, 28, [.cell 8 2 true, .t 9],
 .seq (.reg [⟨(some 4), .box (.t 0), none, 0, 0, []⟩,
   ⟨(some 8), .alloc [(.nil true 1), (.nil true 2)], none, 256, 1, []⟩,
   ⟨(some 9), .mv (.k (.int .i64 0)), none, 512, 2, []⟩])
 (.seq (.block 0 (.seq (.reg [⟨(some 11), .load 2 true (.t 4), none, 65536, 0, []⟩,
   ⟨(some 12), .call 34 [(.t 11)] true, none, 65792, 1, []⟩,
   ⟨(some 13), .not (.t 12), none, 66048, 2, []⟩,
   ⟨(some 10), .mv (.t 13), none, 66304, 3, []⟩])
 (.cond (.t 10)
  (.seq (.reg [⟨(some 14), .build [(.nil true 1), (.nil true 2)] [], none, 131072, 0, []⟩,
    ⟨none, .store 2 (.t 8) (.t 14), none, 131328, 1, []⟩,
    ⟨(some 9), .mv (.k (.int .i64 1)), none, 131584, 2, []⟩])
  (.ret))
  (.seq (.reg [⟨(some 16), .load 2 true (.t 4), none, 196608, 0, []⟩,
    ⟨(some 17), .mv (.t 1), none, 196864, 1, []⟩,
    ⟨(some 18), .mv (.t 2), none, 197120, 2, []⟩,
    ⟨(some 19), .mv (.t 3), none, 197376, 3, []⟩,
    ⟨(some 20), .call 35 [(.t 16), (.t 17), (.t 18), (.t 19)] true, none, 197632, 4, []⟩,
    ⟨(some 21), .not (.t 20), none, 197888, 5, []⟩,
    ⟨(some 15), .mv (.t 21), none, 198144, 6, []⟩])
  (.cond (.t 15)
   (.seq (.reg [⟨(some 22), .build [(.nil true 1), (.nil true 2)] [], none, 262144, 0, []⟩,
     ⟨none, .store 2 (.t 8) (.t 22), none, 262400, 1, []⟩,
     ⟨(some 9), .mv (.k (.int .i64 2)), none, 262656, 2, []⟩])
   (.ret))
   (.skip))))))
 (.seq (.reg [⟨(some 23), .load 2 true (.t 4), none, 327680, 0, []⟩,
   ⟨(some 24), .mv (.t 1), none, 327936, 1, []⟩,
   ⟨(some 25), .mv (.t 2), none, 328192, 2, []⟩,
   ⟨(some 26), .mv (.t 3), none, 328448, 3, []⟩,
   ⟨(some 27), .call 36 [(.t 23), (.t 24), (.t 25), (.t 26)] false, none, 328704, 4, []⟩,
   ⟨none, .store 2 (.t 8) (.t 27), none, 328960, 5, []⟩,
   ⟨(some 9), .mv (.k (.int .i64 0)), none, 329216, 6, []⟩])
 (.ret)))⟩
/-- loop.example/g00849/laws.b10Texts -/
def F11 : F := ⟨2, 26, [.t 4],
 .seq (.reg [⟨(some 4), .mv (.k (.bool false)), none, 0, 0, []⟩])
 (.seq (.seq (.reg [⟨(some 6), .mv (.t 0), none, 65536, 0, []⟩,
   ⟨(some 7), .len false (.t 6), none, 65792, 1, []⟩,
   ⟨(some 8), .mv (.t 1), none, 66048, 2, []⟩,
   ⟨(some 9), .len false (.t 8), none, 66304, 3, []⟩,
   ⟨(some 10), .bin .neq (.t 7) (.t 9), none, 66560, 4, []⟩])
 (.cond (.t 10)
  (.seq (.reg [⟨(some 4), .mv (.k (.bool false)), none, 131072, 0, []⟩])
  (.ret))
  (.skip)))
 (.seq (.seq (.reg [⟨(some 5), .mv (.k (.int .i64 0)), none, 196608, 0, []⟩])
 (.block 0 (.loop [0, 1, 5] []
  (.seq (.seq (.reg [⟨(some 11), .mv (.t 5), none, 262144, 0, []⟩,
    ⟨(some 12), .mv (.t 0), none, 262400, 1, []⟩,
    ⟨(some 13), .len false (.t 12), none, 262656, 2, []⟩,
    ⟨(some 14), .bin .lss (.t 11) (.t 13), none, 262912, 3, []⟩])
  (.cond (.t 14)
   (.skip)
   (.exit 0)))
  (.seq (.block 1 (.seq (.reg [⟨(some 17), .mv (.t 0), none, 393216, 0, []⟩,
    ⟨(some 18), .mv (.t 5), none, 393472, 1, []⟩,
    ⟨(some 19), .iaddr 1 (.t 17) (.t 18), none, 393728, 2, []⟩,
    ⟨(some 20), .load 1 false (.t 19), none, 393984, 3, []⟩,
    ⟨(some 21), .mv (.t 1), none, 394240, 4, []⟩,
    ⟨(some 22), .mv (.t 5), none, 394496, 5, []⟩,
    ⟨(some 23), .iaddr 1 (.t 21) (.t 22), none, 394752, 6, []⟩,
    ⟨(some 24), .load 1 false (.t 23), none, 395008, 7, []⟩,
    ⟨(some 25), .bin .neq (.t 20) (.t 24), none, 395264, 8, []⟩])
  (.cond (.t 25)
   (.seq (.reg [⟨(some 4), .mv (.k (.bool false)), none, 458752, 0, []⟩])
   (.ret))
   (.skip))))
  (.reg [⟨(some 15), .mv (.t 5), none, 327680, 0, []⟩,
    ⟨(some 16), .bin .add (.t 15) (.k (.int .i64 1)), none, 327936, 1, []⟩,
    ⟨(some 5), .mv (.t 16), none, 328192, 2, []⟩]))))))
 (.seq (.reg [⟨(some 4), .mv (.k (.bool true)), none, 524288, 0, []⟩])
 (.ret))))⟩
/-- loop.example/g00849/spec.DrawWriteSector -/
def F12 : F := ⟨1, 22, [.cell 2 2 true, .t 3, .t 4],
 .seq (.reg [⟨(some 2), .alloc [(.nil true 1), (.nil true 2)], none, 0, 0, []⟩,
   ⟨(some 3), .mv (.k (.int .i64 0)), none, 256, 1, []⟩,
   ⟨(some 4), .mv (.k (.str ByteArray.empty)), none, 512, 2, []⟩])
 (.seq (.reg [⟨(some 8), .mv (.t 0), none, 65536, 0, []⟩,
   ⟨(some 9), .call 31 [(.t 8)] false, none, 65792, 1, []⟩,
   ⟨(some 5), .mv (.t 9), none, 66048, 2, []⟩])
 (.seq (.reg [⟨(some 10), .mv (.t 5), none, 131072, 0, []⟩,
   ⟨(some 11), .call 32 [(.t 10), (.k (.int .i64 6))] true, none, 131328, 1, []⟩,
   ⟨(some 6), .mv (.t 11), none, 131584, 2, []⟩])
 (.seq (.reg [⟨(some 12), .mv (.t 5), none, 196608, 0, []⟩,
   ⟨(some 13), .call 37 [(.t 12)] true, none, 196864, 1, []⟩,
   ⟨(some 7), .mv (.t 13), none, 197120, 2, []⟩])
 (.seq (.seq (.reg [⟨(some 14), .mv (.t 5), none, 262144, 0, []⟩,
   ⟨(some 15), .call 38 [(.t 14), (.k (.int .i64 10))] true, none, 262400, 1, []⟩])
 (.cond (.t 15)
  (.reg [⟨(some 16), .mv (.t 7), none, 327680, 0, []⟩,
    ⟨(some 17), .scut (.t 16) (some (.k (.int .i64 1))) none, none, 327936, 1, []⟩,
    ⟨(some 7), .mv (.t 17), none, 328192, 2, []⟩])
  (.skip)))
 (.seq (.reg [⟨(some 18), .mv (.t 5), none, 393216, 0, []⟩,
   ⟨(some 19), .call 33 [(.t 18)] false, none, 393472, 1, []⟩,
   ⟨(some 20), .mv (.t 6), none, 393728, 2, []⟩,
   ⟨(some 21), .mv (.t 7), none, 393984, 3, []⟩,
   ⟨none, .store 2 (.t 2) (.t 19), none, 394240, 4, []⟩,
   ⟨(some 3), .mv (.t 20), none, 394496, 5, []⟩,
   ⟨(some 4), .mv (.t 21), none, 394752, 6, []⟩])
 (.ret))))))⟩
/-- loop.example/g00849/spec.DiskOk -/
def F13 : F := ⟨1, 62, [.t 2],
 .seq (.reg [⟨(some 1), .box (.t 0), none, 0, 0, []⟩,
   ⟨(some 2), .mv (.k (.bool false)), none, 256, 1, []⟩])
 (.seq (.reg [⟨(some 6), .faddr 0 (.t 1), none, 65536, 0, []⟩,
   ⟨(some 7), .load 1 false (.t 6), none, 65792, 1, []⟩,
   ⟨(some 8), .len false (.t 7), none, 66048, 2, []⟩,
   ⟨(some 3), .mv (.t 8), none, 66304, 3, []⟩])
 (.seq (.seq (.reg [⟨(some 9), .mv (.t 3), none, 131072, 0, []⟩,
   ⟨(some 10), .bin .lss (.t 9) (.k (.int .i64 1)), none, 131328, 1, []⟩,
   ⟨(some 11), .mv (.t 10), none, 131584, 2, []⟩,
   ⟨(some 12), .mv (.t 3), (some (some 11, false)), 131840, 3, []⟩,
   ⟨(some 13), .bin .gtr (.t 12) (.k (.int .i64 1200)), (some (some 11, false)), 132096, 4, []⟩,
   ⟨(some 14), .pick (.t 11) (.k (.bool true)) (.t 13), none, 132352, 5, []⟩,
   ⟨(some 15), .mv (.t 14), none, 132608, 6, []⟩,
   ⟨(some 16), .faddr 1 (.t 1), (some (some 15, false)), 132864, 7, []⟩,
   ⟨(some 17), .load 1 false (.t 16), (some (some 15, false)), 133120, 8, []⟩,
   ⟨(some 18), .len false (.t 17), (some (some 15, false)), 133376, 9, []⟩,
   ⟨(some 19), .bin .gtr (.t 18) (.k (.int .i64 600)), (some (some 15, false)), 133632, 10, []⟩,
   ⟨(some 20), .pick (.t 15) (.k (.bool true)) (.t 19), none, 133888, 11, []⟩])
 (.cond (.t 20)
  (.seq (.reg [⟨(some 2), .mv (.k (.bool false)), none, 196608, 0, []⟩])
  (.ret))
  (.skip)))
 (.seq (.seq (.reg [⟨(some 4), .mv (.k (.int .i64 0)), none, 262144, 0, []⟩])
 (.block 0 (.loop [1, 3, 4] [0, 1, 2, 3, 4, 5]
  (.seq (.seq (.reg [⟨(some 21), .mv (.t 4), none, 327680, 0, []⟩,
    ⟨(some 22), .faddr 0 (.t 1), none, 327936, 1, []⟩,
    ⟨(some 23), .load 1 false (.t 22), none, 328192, 2, []⟩,
    ⟨(some 24), .len false (.t 23), none, 328448, 3, []⟩,
    ⟨(some 25), .bin .lss (.t 21) (.t 24), none, 328704, 4, []⟩])
  (.cond (.t 25)
   (.skip)
   (.exit 0)))
  (.seq (.block 1 (.seq (.reg [⟨(some 28), .faddr 0 (.t 1), none, 458752, 0, []⟩,
    ⟨(some 29), .load 1 false (.t 28), none, 459008, 1, []⟩,
    ⟨(some 30), .mv (.t 4), none, 459264, 2, []⟩,
    ⟨(some 31), .iaddr 1 (.t 29) (.t 30), none, 459520, 3, []⟩,
    ⟨(some 32), .load 1 false (.t 31), none, 459776, 4, []⟩,
    ⟨(some 33), .len true (.t 32), none, 460032, 5, []⟩,
    ⟨(some 34), .bin .neq (.t 33) (.k (.int .i64 64)), none, 460288, 6, []⟩])
  (.cond (.t 34)
   (.seq (.reg [⟨(some 2), .mv (.k (.bool false)), none, 524288, 0, []⟩])
   (.ret))
   (.skip))))
  (.reg [⟨(some 26), .mv (.t 4), none, 393216, 0, []⟩,
    ⟨(some 27), .bin .add (.t 26) (.k (.int .i64 1)), none, 393472, 1, []⟩,
    ⟨(some 4), .mv (.t 27), none, 393728, 2, []⟩]))))))
 (.seq (.seq (.reg [⟨(some 5), .mv (.k (.int .i64 0)), none, 589824, 0, []⟩])
 (.block 2 (.loop [1, 3, 5] [0, 1, 2, 3, 4, 5]
  (.seq (.seq (.reg [⟨(some 35), .mv (.t 5), none, 655360, 0, []⟩,
    ⟨(some 36), .faddr 1 (.t 1), none, 655616, 1, []⟩,
    ⟨(some 37), .load 1 false (.t 36), none, 655872, 2, []⟩,
    ⟨(some 38), .len false (.t 37), none, 656128, 3, []⟩,
    ⟨(some 39), .bin .lss (.t 35) (.t 38), none, 656384, 4, []⟩])
  (.cond (.t 39)
   (.skip)
   (.exit 2)))
  (.seq (.block 3 (.seq (.reg [⟨(some 42), .faddr 1 (.t 1), none, 786432, 0, []⟩,
    ⟨(some 43), .load 1 false (.t 42), none, 786688, 1, []⟩,
    ⟨(some 44), .mv (.t 5), none, 786944, 2, []⟩,
    ⟨(some 45), .iaddr 2 (.t 43) (.t 44), none, 787200, 3, []⟩,
    ⟨(some 46), .faddr 0 (.t 45), none, 787456, 4, []⟩,
    ⟨(some 47), .load 1 false (.t 46), none, 787712, 5, []⟩,
    ⟨(some 48), .mv (.t 3), none, 787968, 6, []⟩,
    ⟨(some 49), .bin .sub (.t 48) (.k (.int .i64 1)), none, 788224, 7, []⟩,
    ⟨(some 50), .call 39 [(.t 47), (.k (.int .i64 0)), (.t 49)] true, none, 788480, 8, []⟩,
    ⟨(some 51), .not (.t 50), none, 788736, 9, []⟩,
    ⟨(some 52), .mv (.t 51), none, 788992, 10, []⟩,
    ⟨(some 53), .faddr 1 (.t 1), (some (some 52, false)), 789248, 11, []⟩,
    ⟨(some 54), .load 1 false (.t 53), (some (some 52, false)), 789504, 12, []⟩,
    ⟨(some 55), .mv (.t 5), (some (some 52, false)), 789760, 13, []⟩,
    ⟨(some 56), .iaddr 2 (.t 54) (.t 55), (some (some 52, false)), 790016, 14, []⟩,
    ⟨(some 57), .faddr 1 (.t 56), (some (some 52, false)), 790272, 15, []⟩,
    ⟨(some 58), .load 1 false (.t 57), (some (some 52, false)), 790528, 16, []⟩,
    ⟨(some 59), .len true (.t 58), (some (some 52, false)), 790784, 17, []⟩,
    ⟨(some 60), .bin .neq (.t 59) (.k (.int .i64 64)), (some (some 52, false)), 791040, 18, []⟩,
    ⟨(some 61), .pick (.t 52) (.k (.bool true)) (.t 60), none, 791296, 19, []⟩])
  (.cond (.t 61)
   (.seq (.reg [⟨(some 2), .mv (.k (.bool false)), none, 851968, 0, []⟩])
   (.ret))
   (.skip))))
  (.reg [⟨(some 40), .mv (.t 5), none, 720896, 0, []⟩,
    ⟨(some 41), .bin .add (.t 40) (.k (.int .i64 1)), none, 721152, 1, []⟩,
    ⟨(some 5), .mv (.t 41), none, 721408, 2, []⟩]))))))
 (.seq (.reg [⟨(some 2), .mv (.k (.bool true)), none, 917504, 0, []⟩])
 (.ret))))))⟩
/-- loop.example/g00849/spec.FlushDisk -/
def F14 : F := ⟨1, 9, [.cell 2 2 true],
 .seq (.reg [⟨(some 1), .box (.t 0), none, 0, 0, []⟩,
   ⟨(some 2), .alloc [(.nil true 1), (.nil true 2)], none, 256, 1, []⟩])
 (.seq (.seq (.reg [⟨(some 3), .load 2 true (.t 1), none, 65536, 0, []⟩,
   ⟨(some 4), .call 13 [(.t 3)] true, none, 65792, 1, []⟩,
   ⟨(some 5), .not (.t 4), none, 66048, 2, []⟩])
 (.cond (.t 5)
  (.seq (.reg [⟨(some 6), .build [(.nil true 1), (.nil true 2)] [], none, 131072, 0, []⟩,
    ⟨none, .store 2 (.t 2) (.t 6), none, 131328, 1, []⟩])
  (.ret))
  (.skip)))
 (.seq (.reg [⟨(some 7), .load 2 true (.t 1), none, 196608, 0, []⟩,
   ⟨(some 8), .call 40 [(.t 7)] false, none, 196864, 1, []⟩,
   ⟨none, .store 2 (.t 2) (.t 8), none, 197120, 2, []⟩])
 (.ret)))⟩
/-- loop.example/g00849/impl.WriteSector -/
def F15 : F := ⟨3, 37, [.cell 6 2 true, .t 7],
 .seq (.reg [⟨(some 3), .box (.t 0), none, 0, 0, []⟩,
   ⟨(some 6), .alloc [(.nil true 1), (.nil true 2)], none, 256, 1, []⟩,
   ⟨(some 7), .mv (.k (.int .i64 0)), none, 512, 2, []⟩])
 (.seq (.block 0 (.seq (.reg [⟨(some 9), .load 2 true (.t 3), none, 65536, 0, []⟩,
   ⟨(some 10), .call 34 [(.t 9)] true, none, 65792, 1, []⟩,
   ⟨(some 11), .not (.t 10), none, 66048, 2, []⟩,
   ⟨(some 12), .mv (.t 11), none, 66304, 3, []⟩,
   ⟨(some 13), .mv (.t 2), (some (some 12, false)), 66560, 4, []⟩,
   ⟨(some 14), .call 41 [(.t 13)] true, (some (some 12, false)), 66816, 5, []⟩,
   ⟨(some 15), .not (.t 14), (some (some 12, false)), 67072, 6, []⟩,
   ⟨(some 16), .pick (.t 12) (.k (.bool true)) (.t 15), none, 67328, 7, []⟩,
   ⟨(some 8), .mv (.t 16), none, 67584, 8, []⟩])
 (.cond (.t 8)
  (.seq (.reg [⟨(some 17), .build [(.nil true 1), (.nil true 2)] [], none, 131072, 0, []⟩,
    ⟨none, .store 2 (.t 6) (.t 17), none, 131328, 1, []⟩,
    ⟨(some 7), .mv (.k (.int .i64 1)), none, 131584, 2, []⟩])
  (.ret))
  (.seq (.reg [⟨(some 19), .mv (.t 1), none, 196608, 0, []⟩,
    ⟨(some 20), .faddr 0 (.t 3), none, 196864, 1, []⟩,
    ⟨(some 21), .load 1 false (.t 20), none, 197120, 2, []⟩,
    ⟨(some 22), .len false (.t 21), none, 197376, 3, []⟩,
    ⟨(some 23), .call 42 [(.t 19), (.t 22)] true, none, 197632, 4, []⟩,
    ⟨(some 24), .not (.t 23), none, 197888, 5, []⟩,
    ⟨(some 18), .mv (.t 24), none, 198144, 6, []⟩])
  (.cond (.t 18)
   (.seq (.reg [⟨(some 25), .build [(.nil true 1), (.nil true 2)] [], none, 262144, 0, []⟩,
     ⟨none, .store 2 (.t 6) (.t 25), none, 262400, 1, []⟩,
     ⟨(some 7), .mv (.k (.int .i64 2)), none, 262656, 2, []⟩])
   (.ret))
   (.seq (.reg [⟨(some 27), .faddr 1 (.t 3), none, 327680, 0, []⟩,
     ⟨(some 28), .load 1 false (.t 27), none, 327936, 1, []⟩,
     ⟨(some 29), .len false (.t 28), none, 328192, 2, []⟩,
     ⟨(some 30), .bin .geq (.t 29) (.k (.int .i64 600)), none, 328448, 3, []⟩,
     ⟨(some 26), .mv (.t 30), none, 328704, 4, []⟩])
   (.cond (.t 26)
    (.seq (.reg [⟨(some 31), .build [(.nil true 1), (.nil true 2)] [], none, 393216, 0, []⟩,
      ⟨none, .store 2 (.t 6) (.t 31), none, 393472, 1, []⟩,
      ⟨(some 7), .mv (.k (.int .i64 4)), none, 393728, 2, []⟩])
    (.ret))
    (.skip))))))))
 (.seq (.reg [⟨(some 32), .load 2 true (.t 3), none, 458752, 0, []⟩,
   ⟨(some 33), .mv (.t 1), none, 459008, 1, []⟩,
   ⟨(some 34), .mv (.t 2), none, 459264, 2, []⟩,
   ⟨(some 35), .bslice true 1 [(.str ByteArray.empty)] 1 [(0, (.t 34))], none, 459520, 3, []⟩,
   ⟨(some 36), .call 43 [(.t 32), (.t 33), (.t 35)] false, none, 459776, 4, []⟩,
   ⟨none, .store 2 (.t 6) (.t 36), none, 460032, 5, []⟩,
   ⟨(some 7), .mv (.k (.int .i64 0)), none, 460288, 6, []⟩])
 (.ret)))⟩
/-- loop.example/g00849/laws.b10At -/
def F16 : F := ⟨3, 25, [.t 6],
 .seq (.reg [⟨(some 6), .mv (.k (.int .i64 0)), none, 0, 0, []⟩])
 (.seq (.seq (.reg [⟨(some 7), .mv (.t 2), none, 65536, 0, []⟩,
   ⟨(some 8), .bin .leq (.t 7) (.k (.int .i64 1)), none, 65792, 1, []⟩])
 (.cond (.t 8)
  (.seq (.reg [⟨(some 6), .mv (.k (.int .i64 0)), none, 131072, 0, []⟩])
  (.ret))
  (.skip)))
 (.seq (.seq (.reg [⟨(some 9), .mv (.t 1), none, 196608, 0, []⟩,
   ⟨(some 10), .mv (.t 0), none, 196864, 1, []⟩,
   ⟨(some 11), .len false (.t 10), none, 197120, 2, []⟩,
   ⟨(some 12), .bin .lss (.t 9) (.t 11), none, 197376, 3, []⟩])
 (.cond (.t 12)
  (.seq (.reg [⟨(some 13), .mv (.t 0), none, 262144, 0, []⟩,
    ⟨(some 14), .mv (.t 1), none, 262400, 1, []⟩,
    ⟨(some 15), .iaddr 1 (.t 13) (.t 14), none, 262656, 2, []⟩,
    ⟨(some 16), .load 1 false (.t 15), none, 262912, 3, []⟩,
    ⟨(some 17), .conv .i64 (.t 16), none, 263168, 4, []⟩,
    ⟨(some 18), .mv (.t 2), none, 263424, 5, []⟩,
    ⟨(some 19), .bin .rem (.t 17) (.t 18), none, 263680, 6, []⟩,
    ⟨(some 6), .mv (.t 19), none, 263936, 7, []⟩])
  (.ret))
  (.skip)))
 (.seq (.reg [⟨(some 20), .mv (.t 1), none, 327680, 0, []⟩,
   ⟨(some 21), .bin .mul (.t 20) (.k (.int .i64 37)), none, 327936, 1, []⟩,
   ⟨(some 22), .bin .add (.t 21) (.k (.int .i64 11)), none, 328192, 2, []⟩,
   ⟨(some 23), .mv (.t 2), none, 328448, 3, []⟩,
   ⟨(some 24), .bin .rem (.t 22) (.t 23), none, 328704, 4, []⟩,
   ⟨(some 6), .mv (.t 24), none, 328960, 5, []⟩])
 (.ret))))⟩
/-- loop.example/g00849/impl.PowerLoss -/
def F17 : F := ⟨3, 24, [.cell 6 2 true, .t 7],
 .seq (.reg [⟨(some 3), .box (.t 0), none, 0, 0, []⟩,
   ⟨(some 6), .alloc [(.nil true 1), (.nil true 2)], none, 256, 1, []⟩,
   ⟨(some 7), .mv (.k (.int .i64 0)), none, 512, 2, []⟩])
 (.seq (.block 0 (.seq (.reg [⟨(some 9), .load 2 true (.t 3), none, 65536, 0, []⟩,
   ⟨(some 10), .call 34 [(.t 9)] true, none, 65792, 1, []⟩,
   ⟨(some 11), .not (.t 10), none, 66048, 2, []⟩,
   ⟨(some 8), .mv (.t 11), none, 66304, 3, []⟩])
 (.cond (.t 8)
  (.seq (.reg [⟨(some 12), .build [(.nil true 1), (.nil true 2)] [], none, 131072, 0, []⟩,
    ⟨none, .store 2 (.t 6) (.t 12), none, 131328, 1, []⟩,
    ⟨(some 7), .mv (.k (.int .i64 1)), none, 131584, 2, []⟩])
  (.ret))
  (.seq (.reg [⟨(some 14), .load 2 true (.t 3), none, 196608, 0, []⟩,
    ⟨(some 15), .mv (.t 1), none, 196864, 1, []⟩,
    ⟨(some 16), .mv (.t 2), none, 197120, 2, []⟩,
    ⟨(some 17), .call 44 [(.t 14), (.t 15), (.t 16)] true, none, 197376, 3, []⟩,
    ⟨(some 18), .not (.t 17), none, 197632, 4, []⟩,
    ⟨(some 13), .mv (.t 18), none, 197888, 5, []⟩])
  (.cond (.t 13)
   (.seq (.reg [⟨(some 19), .build [(.nil true 1), (.nil true 2)] [], none, 262144, 0, []⟩,
     ⟨none, .store 2 (.t 6) (.t 19), none, 262400, 1, []⟩,
     ⟨(some 7), .mv (.k (.int .i64 2)), none, 262656, 2, []⟩])
   (.ret))
   (.skip))))))
 (.seq (.reg [⟨(some 20), .load 2 true (.t 3), none, 327680, 0, []⟩,
   ⟨(some 21), .mv (.t 1), none, 327936, 1, []⟩,
   ⟨(some 22), .mv (.t 2), none, 328192, 2, []⟩,
   ⟨(some 23), .call 45 [(.t 20), (.t 21), (.t 22)] false, none, 328448, 3, []⟩,
   ⟨none, .store 2 (.t 6) (.t 23), none, 328704, 4, []⟩,
   ⟨(some 7), .mv (.k (.int .i64 0)), none, 328960, 5, []⟩])
 (.ret)))⟩
/-- loop.example/g00849/spec.l00From -/
def F31 : F := ⟨1, 6, [.t 2],
 .seq (.reg [⟨(some 2), .mv (.k .undef), none, 0, 0, []⟩])
 (.seq (.reg [⟨(some 3), .mv (.t 0), none, 65536, 0, []⟩,
   ⟨(some 4), .build [(.nil true 1), (.int .i64 0), (.int .u64 0)] [(0, 1, (.t 3))], none, 65792, 1, []⟩,
   ⟨(some 5), .box (.t 4), none, 66048, 2, []⟩,
   ⟨(some 2), .mv (.t 5), none, 66304, 3, []⟩])
 (.ret))⟩
/-- (*loop.example/g00849/spec.l00Src).pick -/
def F32 : F := ⟨2, 20, [.t 4],
 .seq (.reg [⟨(some 4), .mv (.k (.int .i64 0)), none, 0, 0, []⟩])
 (.seq (.seq (.reg [⟨(some 6), .mv (.t 1), none, 65536, 0, []⟩,
   ⟨(some 7), .bin .leq (.t 6) (.k (.int .i64 1)), none, 65792, 1, []⟩])
 (.cond (.t 7)
  (.seq (.reg [⟨(some 4), .mv (.k (.int .i64 0)), none, 131072, 0, []⟩])
  (.ret))
  (.skip)))
 (.seq (.reg [⟨(some 8), .mv (.t 0), none, 196608, 0, []⟩,
   ⟨(some 9), .call 58 [(.t 8)] true, none, 196864, 1, []⟩,
   ⟨(some 5), .mv (.t 9), none, 197120, 2, []⟩])
 (.seq (.seq (.reg [⟨(some 10), .mv (.t 1), none, 262144, 0, []⟩,
   ⟨(some 11), .bin .gtr (.t 10) (.k (.int .i64 200)), none, 262400, 1, []⟩])
 (.cond (.t 11)
  (.reg [⟨(some 12), .mv (.t 5), none, 327680, 0, []⟩,
    ⟨(some 13), .bin .mul (.t 12) (.k (.int .i64 256)), none, 327936, 1, []⟩,
    ⟨(some 14), .mv (.t 0), none, 328192, 2, []⟩,
    ⟨(some 15), .call 58 [(.t 14)] true, none, 328448, 3, []⟩,
    ⟨(some 16), .bin .add (.t 13) (.t 15), none, 328704, 4, []⟩,
    ⟨(some 5), .mv (.t 16), none, 328960, 5, []⟩])
  (.skip)))
 (.seq (.reg [⟨(some 17), .mv (.t 5), none, 393216, 0, []⟩,
   ⟨(some 18), .mv (.t 1), none, 393472, 1, []⟩,
   ⟨(some 19), .bin .rem (.t 17) (.t 18), none, 393728, 2, []⟩,
   ⟨(some 4), .mv (.t 19), none, 393984, 3, []⟩])
 (.ret)))))⟩
/-- loop.example/g00849/spec.l14Disk -/
def F33 : F := ⟨1, 99, [.cell 2 2 true],
 .seq (.reg [⟨(some 2), .alloc [(.nil true 1), (.nil true 2)], none, 0, 0, []⟩])
 (.seq (.reg [⟨(some 9), .mv (.t 0), none, 65536, 0, []⟩,
   ⟨(some 10), .call 32 [(.t 9), (.k (.int .i64 5))] true, none, 65792, 1, []⟩,
   ⟨(some 11), .bin .add (.k (.int .i64 1)) (.t 10), none, 66048, 2, []⟩,
   ⟨(some 12), .call 59 [(.t 11)] false, none, 66304, 3, []⟩,
   ⟨(some 8), .mv (.t 12), none, 66560, 4, []⟩,
   ⟨(some 13), .ext (.t 8) 0, none, 66816, 5, []⟩,
   ⟨(some 14), .ext (.t 8) 1, none, 67072, 6, []⟩,
   ⟨(some 3), .alloc [(.nil true 1), (.nil true 2)], none, 67328, 7, []⟩,
   ⟨none, .store 2 (.t 3) (.t 13), none, 67584, 8, []⟩,
   ⟨(some 4), .mv (.t 14), none, 67840, 9, []⟩])
 (.seq (.reg [⟨(some 15), .faddr 0 (.t 3), none, 131072, 0, []⟩,
   ⟨(some 16), .load 1 false (.t 15), none, 131328, 1, []⟩,
   ⟨(some 17), .len false (.t 16), none, 131584, 2, []⟩,
   ⟨(some 5), .mv (.t 17), none, 131840, 3, []⟩])
 (.seq (.seq (.reg [⟨(some 18), .faddr 0 (.t 3), none, 196608, 0, []⟩,
   ⟨(some 19), .load 1 false (.t 18), none, 196864, 1, []⟩,
   ⟨(some 20), .len false (.t 19), none, 197120, 2, []⟩,
   ⟨(some 21), .mv (.k (.int .i64 0)), none, 197376, 3, []⟩])
 (.block 0 (.loop [0, 2, 3, 5, 20, 21] [0, 1, 2, 66304, 66305, 66306, 66307, 67328, 67329, 67330, 67585, 67586, 722944, 723200, 723713, 920320, 920576, 921089, 1050625, 1179905, 1378048, 1378304, 1378817, 1442049, 1442050]
  (.seq (.reg [⟨(some 22), .bin .lss (.t 21) (.t 20), none, 262144, 0, []⟩])
  (.seq (.cond (.t 22)
   (.skip)
   (.exit 0))
  (.seq (.block 1 (.seq (.reg [⟨(some 23), .mv (.t 21), none, 327680, 0, []⟩,
    ⟨(some 6), .mv (.t 23), none, 327936, 1, []⟩])
  (.reg [⟨(some 24), .faddr 0 (.t 3), none, 393216, 0, []⟩,
    ⟨(some 25), .load 1 false (.t 24), none, 393472, 1, [(.t 3)]⟩,
    ⟨(some 26), .mv (.t 6), none, 393728, 2, []⟩,
    ⟨(some 27), .mv (.t 0), none, 393984, 3, []⟩,
    ⟨(some 28), .call 37 [(.t 27)] true, none, 394240, 4, [(.t 3)]⟩,
    ⟨(some 29), .iaddr 1 (.t 25) (.t 26), none, 394496, 5, []⟩,
    ⟨none, .store 1 (.t 29) (.t 28), none, 394752, 6, []⟩])))
  (.reg [⟨(some 30), .bin .add (.t 21) (.k (.int .i64 1)), none, 458752, 0, []⟩,
    ⟨(some 21), .mv (.t 30), none, 459008, 1, []⟩])))))))
 (.seq (.seq (.reg [⟨(some 31), .mv (.t 0), none, 524288, 0, []⟩,
   ⟨(some 32), .call 32 [(.t 31), (.k (.int .i64 5))] true, none, 524544, 1, []⟩,
   ⟨(some 7), .mv (.t 32), none, 524800, 2, []⟩])
 (.block 2 (.loop [0, 2, 3, 5, 7] [0, 1, 2, 66304, 66305, 66306, 66307, 67328, 67329, 67330, 67585, 67586, 394753, 920320, 920576, 921089, 1050625, 1179905, 1378048, 1378304, 1378817, 1442049, 1442050]
  (.seq (.seq (.reg [⟨(some 33), .mv (.t 7), none, 589824, 0, []⟩,
    ⟨(some 34), .bin .gtr (.t 33) (.k (.int .i64 0)), none, 590080, 1, []⟩])
  (.cond (.t 34)
   (.skip)
   (.exit 2)))
  (.seq (.block 3 (.reg [⟨(some 37), .faddr 1 (.t 3), none, 720896, 0, []⟩,
    ⟨(some 38), .load 1 false (.t 37), none, 721152, 1, [(.t 3)]⟩,
    ⟨(some 39), .mv (.t 0), none, 721408, 2, []⟩,
    ⟨(some 40), .mv (.t 5), none, 721664, 3, []⟩,
    ⟨(some 41), .call 32 [(.t 39), (.t 40)] true, none, 721920, 4, [(.t 3)]⟩,
    ⟨(some 42), .mv (.t 0), none, 722176, 5, []⟩,
    ⟨(some 43), .call 37 [(.t 42)] true, none, 722432, 6, [(.t 3)]⟩,
    ⟨(some 44), .build [(.int .i64 0), (.str ByteArray.empty)] [(0, 1, (.t 41)), (1, 1, (.t 43))], none, 722688, 7, []⟩,
    ⟨(some 45), .bslice true 2 [(.int .i64 0), (.str ByteArray.empty)] 1 [(0, (.t 44))], none, 722944, 8, []⟩,
    ⟨(some 46), .app true 2 24 (.t 38) (.t 45), none, 723200, 9, []⟩,
    ⟨(some 47), .faddr 1 (.t 3), none, 723456, 10, []⟩,
    ⟨none, .store 1 (.t 47) (.t 46), none, 723712, 11, []⟩]))
  (.reg [⟨(some 35), .mv (.t 7), none, 655360, 0, []⟩,
    ⟨(some 36), .bin .sub (.t 35) (.k (.int .i64 1)), none, 655616, 1, []⟩,
    ⟨(some 7), .mv (.t 36), none, 655872, 2, []⟩]))))))
 (.seq (.seq (.reg [⟨(some 48), .mv (.t 0), none, 786432, 0, []⟩,
   ⟨(some 49), .call 32 [(.t 48), (.k (.int .i64 20))] true, none, 786688, 1, []⟩])
 (.block 4 (.seq (.reg [⟨(some 51), .bin .eql (.t 49) (.k (.int .i64 0)), none, 851968, 0, []⟩,
   ⟨(some 50), .mv (.t 51), none, 852224, 1, []⟩])
 (.cond (.t 50)
  (.reg [⟨(some 52), .faddr 1 (.t 3), none, 917504, 0, []⟩,
    ⟨(some 53), .load 1 false (.t 52), none, 917760, 1, [(.t 3)]⟩,
    ⟨(some 54), .mv (.t 0), none, 918016, 2, []⟩,
    ⟨(some 55), .call 32 [(.t 54), (.k (.int .i64 7))] true, none, 918272, 3, [(.t 3)]⟩,
    ⟨(some 56), .bin .sub (.t 55) (.k (.int .i64 1)), none, 918528, 4, []⟩,
    ⟨(some 57), .mv (.t 0), none, 918784, 5, []⟩,
    ⟨(some 58), .call 37 [(.t 57)] true, none, 919040, 6, [(.t 3)]⟩,
    ⟨(some 59), .mv (.t 0), none, 919296, 7, []⟩,
    ⟨(some 60), .call 32 [(.t 59), (.k (.int .i64 2))] true, none, 919552, 8, [(.t 3)]⟩,
    ⟨(some 61), .scut (.t 58) (some (.t 60)) none, none, 919808, 9, []⟩,
    ⟨(some 62), .build [(.int .i64 0), (.str ByteArray.empty)] [(0, 1, (.t 56)), (1, 1, (.t 61))], none, 920064, 10, []⟩,
    ⟨(some 63), .bslice true 2 [(.int .i64 0), (.str ByteArray.empty)] 1 [(0, (.t 62))], none, 920320, 11, []⟩,
    ⟨(some 64), .app true 2 24 (.t 53) (.t 63), none, 920576, 12, []⟩,
    ⟨(some 65), .faddr 1 (.t 3), none, 920832, 13, []⟩,
    ⟨none, .store 1 (.t 65) (.t 64), none, 921088, 14, []⟩])
  (.seq (.reg [⟨(some 67), .bin .eql (.t 49) (.k (.int .i64 1)), none, 983040, 0, []⟩,
    ⟨(some 66), .mv (.t 67), none, 983296, 1, []⟩])
  (.cond (.t 66)
   (.reg [⟨(some 68), .faddr 0 (.t 3), none, 1048576, 0, []⟩,
     ⟨(some 69), .load 1 false (.t 68), none, 1048832, 1, []⟩,
     ⟨(some 70), .faddr 0 (.t 3), none, 1049088, 2, []⟩,
     ⟨(some 71), .load 1 false (.t 70), none, 1049344, 3, []⟩,
     ⟨(some 72), .iaddr 1 (.t 71) (.k (.int .i64 0)), none, 1049600, 4, []⟩,
     ⟨(some 73), .load 1 false (.t 72), none, 1049856, 5, []⟩,
     ⟨(some 74), .scut (.t 73) (some (.k (.int .i64 1))) none, none, 1050112, 6, []⟩,
     ⟨(some 75), .iaddr 1 (.t 69) (.k (.int .i64 0)), none, 1050368, 7, []⟩,
     ⟨none, .store 1 (.t 75) (.t 74), none, 1050624, 8, []⟩])
   (.seq (.reg [⟨(some 77), .bin .eql (.t 49) (.k (.int .i64 2)), none, 1114112, 0, []⟩,
     ⟨(some 76), .mv (.t 77), none, 1114368, 1, []⟩])
   (.cond (.t 76)
    (.reg [⟨(some 78), .faddr 0 (.t 3), none, 1179648, 0, []⟩,
      ⟨none, .store 1 (.t 78) (.k (.nil true 1)), none, 1179904, 1, []⟩])
    (.seq (.reg [⟨(some 80), .bin .eql (.t 49) (.k (.int .i64 3)), none, 1245184, 0, []⟩,
      ⟨(some 79), .mv (.t 80), none, 1245440, 1, []⟩])
    (.cond (.t 79)
     (.block 5 (.loop [0, 2, 3] [0, 1, 2, 66304, 66305, 66306, 66307, 67328, 67329, 67330, 67585, 67586, 394753, 722944, 723200, 723713, 1442049, 1442050]
      (.seq (.seq (.reg [⟨(some 81), .faddr 1 (.t 3), none, 1310720, 0, []⟩,
        ⟨(some 82), .load 1 false (.t 81), none, 1310976, 1, [(.t 3)]⟩,
        ⟨(some 83), .len false (.t 82), none, 1311232, 2, []⟩,
        ⟨(some 84), .mv (.t 0), none, 1311488, 3, []⟩,
        ⟨(some 85), .call 32 [(.t 84), (.k (.int .i64 3))] true, none, 1311744, 4, [(.t 3), (.t 82)]⟩,
        ⟨(some 86), .bin .add (.k (.int .i64 599)) (.t 85), none, 1312000, 5, []⟩,
        ⟨(some 87), .bin .lss (.t 83) (.t 86), none, 1312256, 6, []⟩])
      (.cond (.t 87)
       (.skip)
       (.exit 5)))
      (.block 6 (.reg [⟨(some 88), .faddr 1 (.t 3), none, 1376256, 0, []⟩,
        ⟨(some 89), .load 1 false (.t 88), none, 1376512, 1, []⟩,
        ⟨(some 90), .faddr 0 (.t 3), none, 1376768, 2, []⟩,
        ⟨(some 91), .load 1 false (.t 90), none, 1377024, 3, []⟩,
        ⟨(some 92), .iaddr 1 (.t 91) (.k (.int .i64 0)), none, 1377280, 4, []⟩,
        ⟨(some 93), .load 1 false (.t 92), none, 1377536, 5, []⟩,
        ⟨(some 94), .build [(.int .i64 0), (.str ByteArray.empty)] [(1, 1, (.t 93))], none, 1377792, 6, []⟩,
        ⟨(some 95), .bslice true 2 [(.int .i64 0), (.str ByteArray.empty)] 1 [(0, (.t 94))], none, 1378048, 7, []⟩,
        ⟨(some 96), .app true 2 24 (.t 89) (.t 95), none, 1378304, 8, []⟩,
        ⟨(some 97), .faddr 1 (.t 3), none, 1378560, 9, []⟩,
        ⟨none, .store 1 (.t 97) (.t 96), none, 1378816, 10, []⟩])))))
     (.skip)))))))))))
 (.seq (.reg [⟨(some 98), .load 2 true (.t 3), none, 1441792, 0, []⟩,
   ⟨none, .store 2 (.t 2) (.t 98), none, 1442048, 1, []⟩])
 (.ret)))))))⟩
/-- loop.example/g00849/impl.DiskOk -/
def F34 : F := ⟨1, 32, [.t 2],
 .seq (.reg [⟨(some 1), .box (.t 0), none, 0, 0, []⟩,
   ⟨(some 2), .mv (.k (.bool false)), none, 256, 1, []⟩])
 (.seq (.seq (.reg [⟨(some 5), .faddr 0 (.t 1), none, 65536, 0, []⟩,
   ⟨(some 6), .load 1 false (.t 5), none, 65792, 1, []⟩,
   ⟨(some 7), .len false (.t 6), none, 66048, 2, []⟩,
   ⟨(some 8), .call 60 [(.t 7), (.k (.int .i64 1)), (.k (.int .i64 1200))] true, none, 66304, 3, []⟩,
   ⟨(some 9), .not (.t 8), none, 66560, 4, []⟩,
   ⟨(some 10), .mv (.t 9), none, 66816, 5, []⟩,
   ⟨(some 11), .faddr 1 (.t 1), (some (some 10, false)), 67072, 6, []⟩,
   ⟨(some 12), .load 1 false (.t 11), (some (some 10, false)), 67328, 7, []⟩,
   ⟨(some 13), .len false (.t 12), (some (some 10, false)), 67584, 8, []⟩,
   ⟨(some 14), .bin .gtr (.t 13) (.k (.int .i64 600)), (some (some 10, false)), 67840, 9, []⟩,
   ⟨(some 15), .pick (.t 10) (.k (.bool true)) (.t 14), none, 68096, 10, []⟩])
 (.cond (.t 15)
  (.seq (.reg [⟨(some 2), .mv (.k (.bool false)), none, 131072, 0, []⟩])
  (.ret))
  (.skip)))
 (.seq (.seq (.reg [⟨(some 16), .faddr 0 (.t 1), none, 196608, 0, []⟩,
   ⟨(some 17), .load 1 false (.t 16), none, 196864, 1, []⟩,
   ⟨(some 18), .len false (.t 17), none, 197120, 2, []⟩,
   ⟨(some 19), .mv (.k (.int .i64 0)), none, 197376, 3, []⟩])
 (.block 0 (.loop [1, 17, 18, 19] [0, 1, 2, 3, 4, 5]
  (.seq (.reg [⟨(some 20), .bin .lss (.t 19) (.t 18), none, 262144, 0, []⟩])
  (.seq (.cond (.t 20)
   (.skip)
   (.exit 0))
  (.seq (.block 1 (.seq (.reg [⟨(some 21), .iaddr 1 (.t 17) (.t 19), none, 327680, 0, []⟩,
    ⟨(some 22), .load 1 false (.t 21), none, 327936, 1, []⟩,
    ⟨(some 4), .mv (.t 22), none, 328192, 2, []⟩])
  (.seq (.reg [⟨(some 23), .mv (.t 4), none, 393216, 0, []⟩,
    ⟨(some 24), .call 41 [(.t 23)] true, none, 393472, 1, []⟩,
    ⟨(some 25), .not (.t 24), none, 393728, 2, []⟩])
  (.cond (.t 25)
   (.seq (.reg [⟨(some 2), .mv (.k (.bool false)), none, 458752, 0, []⟩])
   (.ret))
   (.skip)))))
  (.reg [⟨(some 26), .bin .add (.t 19) (.k (.int .i64 1)), none, 524288, 0, []⟩,
    ⟨(some 19), .mv (.t 26), none, 524544, 1, []⟩])))))))
 (.seq (.reg [⟨(some 27), .faddr 1 (.t 1), none, 589824, 0, []⟩,
   ⟨(some 28), .load 1 false (.t 27), none, 590080, 1, []⟩,
   ⟨(some 29), .mkf 62 [(.t 1)], none, 590336, 2, []⟩,
   ⟨(some 30), .call 61 [(.t 28), (.t 29)] true, none, 590592, 3, []⟩,
   ⟨(some 31), .not (.t 30), none, 590848, 4, []⟩,
   ⟨(some 2), .mv (.t 31), none, 591104, 5, []⟩])
 (.ret))))⟩
/-- (loop.example/g00849/impl.Disk).rotOk -/
def F35 : F := ⟨4, 22, [.t 8],
 .seq (.reg [⟨(some 4), .box (.t 0), none, 0, 0, []⟩,
   ⟨(some 8), .mv (.k (.bool false)), none, 256, 1, []⟩])
 (.seq (.reg [⟨(some 9), .mv (.t 1), none, 65536, 0, []⟩,
   ⟨(some 10), .faddr 0 (.t 4), none, 65792, 1, []⟩,
   ⟨(some 11), .load 1 false (.t 10), none, 66048, 2, []⟩,
   ⟨(some 12), .len false (.t 11), none, 66304, 3, []⟩,
   ⟨(some 13), .call 42 [(.t 9), (.t 12)] true, none, 66560, 4, []⟩,
   ⟨(some 14), .mv (.t 13), none, 66816, 5, []⟩,
   ⟨(some 15), .mv (.t 2), (some (some 14, true)), 67072, 6, []⟩,
   ⟨(some 16), .call 60 [(.t 15), (.k (.int .i64 0)), (.k (.int .i64 63))] true, (some (some 14, true)), 67328, 7, []⟩,
   ⟨(some 17), .pick (.t 14) (.t 16) (.k (.bool false)), none, 67584, 8, []⟩,
   ⟨(some 18), .mv (.t 17), none, 67840, 9, []⟩,
   ⟨(some 19), .mv (.t 3), (some (some 18, true)), 68096, 10, []⟩,
   ⟨(some 20), .call 60 [(.t 19), (.k (.int .i64 1)), (.k (.int .i64 255))] true, (some (some 18, true)), 68352, 11, []⟩,
   ⟨(some 21), .pick (.t 18) (.t 20) (.k (.bool false)), none, 68608, 12, []⟩,
   ⟨(some 8), .mv (.t 21), none, 68864, 13, []⟩])
 (.ret))⟩
/-- (loop.example/g00849/impl.Disk).rotten -/
def F36 : F := ⟨4, 34, [.cell 8 2 true],
 .seq (.reg [⟨(some 4), .box (.t 0), none, 0, 0, []⟩,
   ⟨(some 8), .alloc [(.nil true 1), (.nil true 2)], none, 256, 1, []⟩])
 (.seq (.reg [⟨(some 11), .load 2 true (.t 4), none, 65536, 0, []⟩,
   ⟨(some 12), .call 63 [(.t 11)] false, none, 65792, 1, []⟩,
   ⟨(some 9), .alloc [(.nil true 1), (.nil true 2)], none, 66048, 2, []⟩,
   ⟨none, .store 2 (.t 9) (.t 12), none, 66304, 3, []⟩])
 (.seq (.reg [⟨(some 13), .faddr 0 (.t 9), none, 131072, 0, []⟩,
   ⟨(some 14), .load 1 false (.t 13), none, 131328, 1, []⟩,
   ⟨(some 15), .mv (.t 1), none, 131584, 2, []⟩,
   ⟨(some 16), .iaddr 1 (.t 14) (.t 15), none, 131840, 3, []⟩,
   ⟨(some 17), .load 1 false (.t 16), none, 132096, 4, []⟩,
   ⟨(some 18), .s2b (.t 17), none, 132352, 5, []⟩,
   ⟨(some 10), .mv (.t 18), none, 132608, 6, []⟩])
 (.seq (.reg [⟨(some 19), .mv (.t 10), none, 196608, 0, []⟩,
   ⟨(some 20), .mv (.t 2), none, 196864, 1, []⟩,
   ⟨(some 21), .iaddr 1 (.t 19) (.t 20), none, 197120, 2, []⟩,
   ⟨(some 22), .load 1 false (.t 21), none, 197376, 3, []⟩,
   ⟨(some 23), .mv (.t 3), none, 197632, 4, []⟩,
   ⟨(some 24), .conv .u8 (.t 23), none, 197888, 5, []⟩,
   ⟨(some 25), .bin .xor (.t 22) (.t 24), none, 198144, 6, []⟩,
   ⟨(some 26), .iaddr 1 (.t 19) (.t 20), none, 198400, 7, []⟩,
   ⟨none, .store 1 (.t 26) (.t 25), none, 198656, 8, []⟩])
 (.seq (.reg [⟨(some 27), .faddr 0 (.t 9), none, 262144, 0, []⟩,
   ⟨(some 28), .load 1 false (.t 27), none, 262400, 1, []⟩,
   ⟨(some 29), .mv (.t 1), none, 262656, 2, []⟩,
   ⟨(some 30), .mv (.t 10), none, 262912, 3, []⟩,
   ⟨(some 31), .b2s (.t 30), none, 263168, 4, []⟩,
   ⟨(some 32), .iaddr 1 (.t 28) (.t 29), none, 263424, 5, []⟩,
   ⟨none, .store 1 (.t 32) (.t 31), none, 263680, 6, []⟩])
 (.seq (.reg [⟨(some 33), .load 2 true (.t 9), none, 327680, 0, []⟩,
   ⟨none, .store 2 (.t 8) (.t 33), none, 327936, 1, []⟩])
 (.ret))))))⟩
/-- loop.example/g00849/spec.l14Sector -/
def F37 : F := ⟨1, 21, [.t 2],
 .seq (.reg [⟨(some 2), .mv (.k (.str ByteArray.empty)), none, 0, 0, []⟩])
 (.seq (.reg [⟨(some 5), .mksl true 1 1 [(.int .u8 0)] (.k (.int .i64 64)) (.k (.int .i64 64)), none, 65536, 0, []⟩,
   ⟨(some 3), .mv (.t 5), none, 65792, 1, []⟩])
 (.seq (.seq (.reg [⟨(some 6), .mv (.t 0), none, 131072, 0, []⟩,
   ⟨(some 7), .call 32 [(.t 6), (.k (.int .i64 4))] true, none, 131328, 1, []⟩,
   ⟨(some 4), .mv (.t 7), none, 131584, 2, []⟩])
 (.block 0 (.loop [0, 3, 4] [65536]
  (.seq (.seq (.reg [⟨(some 8), .mv (.t 4), none, 196608, 0, []⟩,
    ⟨(some 9), .bin .gtr (.t 8) (.k (.int .i64 0)), none, 196864, 1, []⟩])
  (.cond (.t 9)
   (.skip)
   (.exit 0)))
  (.seq (.block 1 (.reg [⟨(some 12), .mv (.t 3), none, 327680, 0, []⟩,
    ⟨(some 13), .mv (.t 0), none, 327936, 1, []⟩,
    ⟨(some 14), .call 32 [(.t 13), (.k (.int .i64 64))] true, none, 328192, 2, []⟩,
    ⟨(some 15), .mv (.t 0), none, 328448, 3, []⟩,
    ⟨(some 16), .call 58 [(.t 15)] true, none, 328704, 4, []⟩,
    ⟨(some 17), .conv .u8 (.t 16), none, 328960, 5, []⟩,
    ⟨(some 18), .iaddr 1 (.t 12) (.t 14), none, 329216, 6, []⟩,
    ⟨none, .store 1 (.t 18) (.t 17), none, 329472, 7, []⟩]))
  (.reg [⟨(some 10), .mv (.t 4), none, 262144, 0, []⟩,
    ⟨(some 11), .bin .sub (.t 10) (.k (.int .i64 1)), none, 262400, 1, []⟩,
    ⟨(some 4), .mv (.t 11), none, 262656, 2, []⟩]))))))
 (.seq (.reg [⟨(some 19), .mv (.t 3), none, 393216, 0, []⟩,
   ⟨(some 20), .b2s (.t 19), none, 393472, 1, []⟩,
   ⟨(some 2), .mv (.t 20), none, 393728, 2, []⟩])
 (.ret))))⟩
/-- (*loop.example/g00849/spec.l00Src).one -/
def F38 : F := ⟨2, 9, [.t 4],
 .seq (.reg [⟨(some 4), .mv (.k (.bool false)), none, 0, 0, []⟩])
 (.seq (.reg [⟨(some 5), .mv (.t 0), none, 65536, 0, []⟩,
   ⟨(some 6), .mv (.t 1), none, 65792, 1, []⟩,
   ⟨(some 7), .call 32 [(.t 5), (.t 6)] true, none, 66048, 2, []⟩,
   ⟨(some 8), .bin .eql (.t 7) (.k (.int .i64 0)), none, 66304, 3, []⟩,
   ⟨(some 4), .mv (.t 8), none, 66560, 4, []⟩])
 (.ret))⟩
/-- loop.example/g00849/spec.l00In -/
def F39 : F := ⟨3, 15, [.t 6],
 .seq (.reg [⟨(some 6), .mv (.k (.bool false)), none, 0, 0, []⟩])
 (.seq (.reg [⟨(some 7), .mv (.t 0), none, 65536, 0, []⟩,
   ⟨(some 8), .mv (.t 1), none, 65792, 1, []⟩,
   ⟨(some 9), .bin .geq (.t 7) (.t 8), none, 66048, 2, []⟩,
   ⟨(some 10), .mv (.t 9), none, 66304, 3, []⟩,
   ⟨(some 11), .mv (.t 0), (some (some 10, true)), 66560, 4, []⟩,
   ⟨(some 12), .mv (.t 2), (some (some 10, true)), 66816, 5, []⟩,
   ⟨(some 13), .bin .leq (.t 11) (.t 12), (some (some 10, true)), 67072, 6, []⟩,
   ⟨(some 14), .pick (.t 10) (.t 13) (.k (.bool false)), none, 67328, 7, []⟩,
   ⟨(some 6), .mv (.t 14), none, 67584, 8, []⟩])
 (.ret))⟩
/-- loop.example/g00849/spec.l14Flush -/
def F40 : F := ⟨1, 33, [.cell 2 2 true],
 .seq (.reg [⟨(some 1), .box (.t 0), none, 0, 0, []⟩,
   ⟨(some 2), .alloc [(.nil true 1), (.nil true 2)], none, 256, 1, []⟩])
 (.seq (.reg [⟨(some 5), .bslice true 1 [(.str ByteArray.empty)] 0 [], none, 65536, 0, []⟩,
   ⟨(some 6), .faddr 0 (.t 1), none, 65792, 1, []⟩,
   ⟨(some 7), .load 1 false (.t 6), none, 66048, 2, []⟩,
   ⟨(some 8), .app true 1 16 (.t 5) (.t 7), none, 66304, 3, []⟩,
   ⟨(some 9), .build [(.nil true 1), (.nil true 2)] [(0, 1, (.t 8))], none, 66560, 4, []⟩,
   ⟨(some 3), .alloc [(.nil true 1), (.nil true 2)], none, 66816, 5, []⟩,
   ⟨none, .store 2 (.t 3) (.t 9), none, 67072, 6, []⟩])
 (.seq (.seq (.reg [⟨(some 4), .mv (.k (.int .i64 0)), none, 131072, 0, []⟩])
 (.block 0 (.loop [1, 2, 3, 4] [0, 1, 2, 3, 4, 5, 256, 257, 258, 65536, 66304, 66816, 66817, 66818, 67073, 67074, 393473, 393474]
  (.seq (.seq (.reg [⟨(some 10), .mv (.t 4), none, 196608, 0, []⟩,
    ⟨(some 11), .faddr 1 (.t 1), none, 196864, 1, []⟩,
    ⟨(some 12), .load 1 false (.t 11), none, 197120, 2, []⟩,
    ⟨(some 13), .len false (.t 12), none, 197376, 3, []⟩,
    ⟨(some 14), .bin .lss (.t 10) (.t 13), none, 197632, 4, []⟩])
  (.cond (.t 14)
   (.skip)
   (.exit 0)))
  (.seq (.block 1 (.reg [⟨(some 17), .faddr 0 (.t 3), none, 327680, 0, []⟩,
    ⟨(some 18), .load 1 false (.t 17), none, 327936, 1, []⟩,
    ⟨(some 19), .faddr 1 (.t 1), none, 328192, 2, []⟩,
    ⟨(some 20), .load 1 false (.t 19), none, 328448, 3, []⟩,
    ⟨(some 21), .mv (.t 4), none, 328704, 4, []⟩,
    ⟨(some 22), .iaddr 2 (.t 20) (.t 21), none, 328960, 5, []⟩,
    ⟨(some 23), .faddr 0 (.t 22), none, 329216, 6, []⟩,
    ⟨(some 24), .load 1 false (.t 23), none, 329472, 7, []⟩,
    ⟨(some 25), .faddr 1 (.t 1), none, 329728, 8, []⟩,
    ⟨(some 26), .load 1 false (.t 25), none, 329984, 9, []⟩,
    ⟨(some 27), .mv (.t 4), none, 330240, 10, []⟩,
    ⟨(some 28), .iaddr 2 (.t 26) (.t 27), none, 330496, 11, []⟩,
    ⟨(some 29), .faddr 1 (.t 28), none, 330752, 12, []⟩,
    ⟨(some 30), .load 1 false (.t 29), none, 331008, 13, []⟩,
    ⟨(some 31), .iaddr 1 (.t 18) (.t 24), none, 331264, 14, []⟩,
    ⟨none, .store 1 (.t 31) (.t 30), none, 331520, 15, []⟩]))
  (.reg [⟨(some 15), .mv (.t 4), none, 262144, 0, []⟩,
    ⟨(some 16), .bin .add (.t 15) (.k (.int .i64 1)), none, 262400, 1, []⟩,
    ⟨(some 4), .mv (.t 16), none, 262656, 2, []⟩]))))))
 (.seq (.reg [⟨(some 32), .load 2 true (.t 3), none, 393216, 0, []⟩,
   ⟨none, .store 2 (.t 2) (.t 32), none, 393472, 1, []⟩])
 (.ret))))⟩
/-- loop.example/g00849/impl.sectorOk -/
def F41 : F := ⟨1, 6, [.t 2],
 .seq (.reg [⟨(some 2), .mv (.k (.bool false)), none, 0, 0, []⟩])
 (.seq (.reg [⟨(some 3), .mv (.t 0), none, 65536, 0, []⟩,
   ⟨(some 4), .len true (.t 3), none, 65792, 1, []⟩,
   ⟨(some 5), .bin .eql (.t 4) (.k (.int .i64 64)), none, 66048, 2, []⟩,
   ⟨(some 2), .mv (.t 5), none, 66304, 3, []⟩])
 (.ret))⟩
/-- loop.example/g00849/impl.isIndex -/
def F42 : F := ⟨2, 9, [.t 4],
 .seq (.reg [⟨(some 4), .mv (.k (.bool false)), none, 0, 0, []⟩])
 (.seq (.reg [⟨(some 5), .mv (.t 0), none, 65536, 0, []⟩,
   ⟨(some 6), .mv (.t 1), none, 65792, 1, []⟩,
   ⟨(some 7), .bin .sub (.t 6) (.k (.int .i64 1)), none, 66048, 2, []⟩,
   ⟨(some 8), .call 60 [(.t 5), (.k (.int .i64 0)), (.t 7)] true, none, 66304, 3, []⟩,
   ⟨(some 4), .mv (.t 8), none, 66560, 4, []⟩])
 (.ret))⟩
/-- (loop.example/g00849/impl.Disk).writing -/
def F43 : F := ⟨3, 31, [.cell 6 2 true],
 .seq (.reg [⟨(some 3), .box (.t 0), none, 0, 0, []⟩,
   ⟨(some 6), .alloc [(.nil true 1), (.nil true 2)], none, 256, 1, []⟩])
 (.seq (.reg [⟨(some 10), .load 2 true (.t 3), none, 65536, 0, []⟩,
   ⟨(some 11), .call 63 [(.t 10)] false, none, 65792, 1, []⟩,
   ⟨(some 7), .alloc [(.nil true 1), (.nil true 2)], none, 66048, 2, []⟩,
   ⟨none, .store 2 (.t 7) (.t 11), none, 66304, 3, []⟩])
 (.seq (.seq (.reg [⟨(some 12), .mv (.t 2), none, 131072, 0, []⟩,
   ⟨(some 13), .len false (.t 12), none, 131328, 1, []⟩,
   ⟨(some 14), .mv (.k (.int .i64 0)), none, 131584, 2, []⟩])
 (.block 0 (.loop [1, 6, 7, 12, 13, 14] [0, 1, 2, 3, 4, 5, 256, 257, 258, 65792, 65793, 65794, 65795, 66048, 66049, 66050, 66305, 66306, 459009, 459010]
  (.seq (.reg [⟨(some 15), .bin .lss (.t 14) (.t 13), none, 196608, 0, []⟩])
  (.seq (.cond (.t 15)
   (.skip)
   (.exit 0))
  (.seq (.block 1 (.seq (.reg [⟨(some 16), .mv (.t 14), none, 262144, 0, []⟩,
    ⟨(some 17), .iaddr 1 (.t 12) (.t 14), none, 262400, 1, []⟩,
    ⟨(some 18), .load 1 false (.t 17), none, 262656, 2, []⟩,
    ⟨(some 8), .mv (.t 16), none, 262912, 3, []⟩,
    ⟨(some 9), .mv (.t 18), none, 263168, 4, []⟩])
  (.reg [⟨(some 19), .faddr 1 (.t 7), none, 327680, 0, []⟩,
    ⟨(some 20), .load 1 false (.t 19), none, 327936, 1, []⟩,
    ⟨(some 21), .mv (.t 1), none, 328192, 2, []⟩,
    ⟨(some 22), .mv (.t 8), none, 328448, 3, []⟩,
    ⟨(some 23), .bin .add (.t 21) (.t 22), none, 328704, 4, []⟩,
    ⟨(some 24), .mv (.t 9), none, 328960, 5, []⟩,
    ⟨(some 25), .build [(.int .i64 0), (.str ByteArray.empty)] [(0, 1, (.t 23)), (1, 1, (.t 24))], none, 329216, 6, []⟩,
    ⟨(some 26), .bslice true 2 [(.int .i64 0), (.str ByteArray.empty)] 1 [(0, (.t 25))], none, 329472, 7, []⟩,
    ⟨(some 27), .app true 2 24 (.t 20) (.t 26), none, 329728, 8, []⟩,
    ⟨(some 28), .faddr 1 (.t 7), none, 329984, 9, []⟩,
    ⟨none, .store 1 (.t 28) (.t 27), none, 330240, 10, []⟩])))
  (.reg [⟨(some 29), .bin .add (.t 14) (.k (.int .i64 1)), none, 393216, 0, []⟩,
    ⟨(some 14), .mv (.t 29), none, 393472, 1, []⟩])))))))
 (.seq (.reg [⟨(some 30), .load 2 true (.t 7), none, 458752, 0, []⟩,
   ⟨none, .store 2 (.t 6) (.t 30), none, 459008, 1, []⟩])
 (.ret))))⟩
/-- (loop.example/g00849/impl.Disk).lossOk -/
def F44 : F := ⟨3, 21, [.t 6],
 .seq (.reg [⟨(some 3), .box (.t 0), none, 0, 0, []⟩,
   ⟨(some 6), .mv (.k (.bool false)), none, 256, 1, []⟩])
 (.seq (.reg [⟨(some 7), .mv (.t 1), none, 65536, 0, []⟩,
   ⟨(some 8), .call 64 [(.t 7)] true, none, 65792, 1, []⟩,
   ⟨(some 9), .mv (.t 8), none, 66048, 2, []⟩,
   ⟨(some 10), .mv (.t 1), (some (some 9, true)), 66304, 3, []⟩,
   ⟨(some 11), .faddr 1 (.t 3), (some (some 9, true)), 66560, 4, []⟩,
   ⟨(some 12), .load 1 false (.t 11), (some (some 9, true)), 66816, 5, []⟩,
   ⟨(some 13), .len false (.t 12), (some (some 9, true)), 67072, 6, []⟩,
   ⟨(some 14), .bin .sub (.t 13) (.k (.int .i64 1)), (some (some 9, true)), 67328, 7, []⟩,
   ⟨(some 15), .call 65 [(.t 10), (.k (.int .i64 0)), (.t 14)] true, (some (some 9, true)), 67584, 8, []⟩,
   ⟨(some 16), .pick (.t 9) (.t 15) (.k (.bool false)), none, 67840, 9, []⟩,
   ⟨(some 17), .mv (.t 16), none, 68096, 10, []⟩,
   ⟨(some 18), .mv (.t 2), (some (some 17, true)), 68352, 11, []⟩,
   ⟨(some 19), .call 60 [(.t 18), (.k (.int .i64 (-1))), (.k (.int .i64 64))] true, (some (some 17, true)), 68608, 12, []⟩,
   ⟨(some 20), .pick (.t 17) (.t 19) (.k (.bool false)), none, 68864, 13, []⟩,
   ⟨(some 6), .mv (.t 20), none, 69120, 14, []⟩])
 (.ret))⟩
/-- (loop.example/g00849/impl.Disk).lost -/
def F45 : F := ⟨3, 56, [.cell 6 2 true],
 .seq (.reg [⟨(some 3), .box (.t 0), none, 0, 0, []⟩,
   ⟨(some 6), .alloc [(.nil true 1), (.nil true 2)], none, 256, 1, []⟩])
 (.seq (.reg [⟨(some 12), .faddr 0 (.t 3), none, 65536, 0, []⟩,
   ⟨(some 13), .load 1 false (.t 12), none, 65792, 1, []⟩,
   ⟨(some 14), .call 66 [(.t 13)] false, none, 66048, 2, []⟩,
   ⟨(some 7), .mv (.t 14), none, 66304, 3, []⟩])
 (.seq (.seq (.reg [⟨(some 15), .mv (.t 1), none, 131072, 0, []⟩,
   ⟨(some 16), .len false (.t 15), none, 131328, 1, []⟩,
   ⟨(some 17), .mv (.k (.int .i64 0)), none, 131584, 2, []⟩])
 (.block 0 (.loop [1, 2, 3, 6, 7, 15, 16, 17] [0, 1, 2, 3, 4, 5, 256, 257, 258, 66048, 66049, 66050, 66051, 721409, 721410]
  (.seq (.reg [⟨(some 18), .bin .lss (.t 17) (.t 16), none, 196608, 0, []⟩])
  (.seq (.cond (.t 18)
   (.skip)
   (.exit 0))
  (.seq (.block 1 (.seq (.reg [⟨(some 19), .mv (.t 17), none, 262144, 0, []⟩,
    ⟨(some 20), .iaddr 1 (.t 15) (.t 17), none, 262400, 1, []⟩,
    ⟨(some 21), .load 1 false (.t 20), none, 262656, 2, []⟩,
    ⟨(some 8), .mv (.t 19), none, 262912, 3, []⟩,
    ⟨(some 9), .mv (.t 21), none, 263168, 4, []⟩])
  (.seq (.reg [⟨(some 22), .faddr 1 (.t 3), none, 327680, 0, []⟩,
    ⟨(some 23), .load 1 false (.t 22), none, 327936, 1, []⟩,
    ⟨(some 24), .mv (.t 9), none, 328192, 2, []⟩,
    ⟨(some 25), .iaddr 2 (.t 23) (.t 24), none, 328448, 3, []⟩,
    ⟨(some 26), .load 2 true (.t 25), none, 328704, 4, []⟩,
    ⟨(some 10), .alloc [(.int .i64 0), (.str ByteArray.empty)], none, 328960, 5, []⟩,
    ⟨none, .store 2 (.t 10) (.t 26), none, 329216, 6, []⟩])
  (.seq (.reg [⟨(some 11), .mv (.k (.int .i64 64)), none, 393216, 0, []⟩])
  (.seq (.seq (.reg [⟨(some 27), .mv (.t 8), none, 458752, 0, []⟩,
    ⟨(some 28), .mv (.t 1), none, 459008, 1, []⟩,
    ⟨(some 29), .len false (.t 28), none, 459264, 2, []⟩,
    ⟨(some 30), .bin .sub (.t 29) (.k (.int .i64 1)), none, 459520, 3, []⟩,
    ⟨(some 31), .bin .eql (.t 27) (.t 30), none, 459776, 4, []⟩,
    ⟨(some 32), .mv (.t 31), none, 460032, 5, []⟩,
    ⟨(some 33), .mv (.t 2), (some (some 32, true)), 460288, 6, []⟩,
    ⟨(some 34), .bin .geq (.t 33) (.k (.int .i64 0)), (some (some 32, true)), 460544, 7, []⟩,
    ⟨(some 35), .pick (.t 32) (.t 34) (.k (.bool false)), none, 460800, 8, []⟩])
  (.cond (.t 35)
   (.reg [⟨(some 36), .mv (.t 2), none, 524288, 0, []⟩,
     ⟨(some 11), .mv (.t 36), none, 524544, 1, []⟩])
   (.skip)))
  (.reg [⟨(some 37), .mv (.t 7), none, 589824, 0, []⟩,
    ⟨(some 38), .faddr 0 (.t 10), none, 590080, 1, []⟩,
    ⟨(some 39), .load 1 false (.t 38), none, 590336, 2, []⟩,
    ⟨(some 40), .faddr 1 (.t 10), none, 590592, 3, []⟩,
    ⟨(some 41), .load 1 false (.t 40), none, 590848, 4, []⟩,
    ⟨(some 42), .mv (.t 11), none, 591104, 5, []⟩,
    ⟨(some 43), .scut (.t 41) none (some (.t 42)), none, 591360, 6, []⟩,
    ⟨(some 44), .mv (.t 7), none, 591616, 7, []⟩,
    ⟨(some 45), .faddr 0 (.t 10), none, 591872, 8, []⟩,
    ⟨(some 46), .load 1 false (.t 45), none, 592128, 9, []⟩,
    ⟨(some 47), .iaddr 1 (.t 44) (.t 46), none, 592384, 10, []⟩,
    ⟨(some 48), .load 1 false (.t 47), none, 592640, 11, []⟩,
    ⟨(some 49), .mv (.t 11), none, 592896, 12, []⟩,
    ⟨(some 50), .scut (.t 48) (some (.t 49)) none, none, 593152, 13, []⟩,
    ⟨(some 51), .bin .add (.t 43) (.t 50), none, 593408, 14, []⟩,
    ⟨(some 52), .iaddr 1 (.t 37) (.t 39), none, 593664, 15, []⟩,
    ⟨none, .store 1 (.t 52) (.t 51), none, 593920, 16, []⟩]))))))
  (.reg [⟨(some 53), .bin .add (.t 17) (.k (.int .i64 1)), none, 655360, 0, []⟩,
    ⟨(some 17), .mv (.t 53), none, 655616, 1, []⟩])))))))
 (.seq (.reg [⟨(some 54), .mv (.t 7), none, 720896, 0, []⟩,
   ⟨(some 55), .build [(.nil true 1), (.nil true 2)] [(0, 1, (.t 54))], none, 721152, 1, []⟩,
   ⟨none, .store 2 (.t 6) (.t 55), none, 721408, 2, []⟩])
 (.ret))))⟩
/-- (*loop.example/g00849/spec.l00Src).next -/
def F58 : F := ⟨1, 62, [.t 2],
 .seq (.reg [⟨(some 2), .mv (.k (.int .i64 0)), none, 0, 0, []⟩])
 (.seq (.reg [⟨(some 3), .mv (.k (.int .i64 0)), none, 65536, 0, []⟩])
 (.seq (.seq (.reg [⟨(some 4), .mv (.t 0), none, 131072, 0, []⟩,
   ⟨(some 5), .nilck (.t 4), none, 131328, 1, []⟩,
   ⟨(some 6), .faddr 1 (.t 5), none, 131584, 2, []⟩,
   ⟨(some 7), .load 1 false (.t 6), none, 131840, 3, []⟩,
   ⟨(some 8), .mv (.t 0), none, 132096, 4, []⟩,
   ⟨(some 9), .nilck (.t 8), none, 132352, 5, []⟩,
   ⟨(some 10), .faddr 0 (.t 9), none, 132608, 6, []⟩,
   ⟨(some 11), .load 1 false (.t 10), none, 132864, 7, []⟩,
   ⟨(some 12), .len false (.t 11), none, 133120, 8, []⟩,
   ⟨(some 13), .bin .lss (.t 7) (.t 12), none, 133376, 9, []⟩])
 (.cond (.t 13)
  (.reg [⟨(some 14), .mv (.t 0), none, 196608, 0, []⟩,
    ⟨(some 15), .nilck (.t 14), none, 196864, 1, []⟩,
    ⟨(some 16), .faddr 0 (.t 15), none, 197120, 2, []⟩,
    ⟨(some 17), .load 1 false (.t 16), none, 197376, 3, []⟩,
    ⟨(some 18), .mv (.t 0), none, 197632, 4, []⟩,
    ⟨(some 19), .nilck (.t 18), none, 197888, 5, []⟩,
    ⟨(some 20), .faddr 1 (.t 19), none, 198144, 6, []⟩,
    ⟨(some 21), .load 1 false (.t 20), none, 198400, 7, []⟩,
    ⟨(some 22), .iaddr 1 (.t 17) (.t 21), none, 198656, 8, []⟩,
    ⟨(some 23), .load 1 false (.t 22), none, 198912, 9, []⟩,
    ⟨(some 24), .conv .i64 (.t 23), none, 199168, 10, []⟩,
    ⟨(some 3), .mv (.t 24), none, 199424, 11, []⟩])
  (.skip)))
 (.seq (.reg [⟨(some 25), .mv (.t 0), none, 262144, 0, []⟩,
   ⟨(some 26), .nilck (.t 25), none, 262400, 1, []⟩,
   ⟨(some 27), .faddr 1 (.t 26), none, 262656, 2, []⟩,
   ⟨(some 28), .load 1 false (.t 27), none, 262912, 3, []⟩,
   ⟨(some 29), .bin .add (.t 28) (.k (.int .i64 1)), none, 263168, 4, []⟩,
   ⟨(some 30), .nilck (.t 25), none, 263424, 5, []⟩,
   ⟨(some 31), .faddr 1 (.t 30), none, 263680, 6, []⟩,
   ⟨none, .store 1 (.t 31) (.t 29), none, 263936, 7, []⟩])
 (.seq (.reg [⟨(some 32), .mv (.t 0), none, 327680, 0, []⟩,
   ⟨(some 33), .mv (.t 0), none, 327936, 1, []⟩,
   ⟨(some 34), .nilck (.t 33), none, 328192, 2, []⟩,
   ⟨(some 35), .faddr 2 (.t 34), none, 328448, 3, []⟩,
   ⟨(some 36), .load 1 false (.t 35), none, 328704, 4, []⟩,
   ⟨(some 37), .bin .mul (.t 36) (.k (.int .u64 6364136223846793005)), none, 328960, 5, []⟩,
   ⟨(some 38), .mv (.t 3), none, 329216, 6, []⟩,
   ⟨(some 39), .conv .u64 (.t 38), none, 329472, 7, []⟩,
   ⟨(some 40), .bin .add (.t 37) (.t 39), none, 329728, 8, []⟩,
   ⟨(some 41), .bin .add (.t 40) (.k (.int .u64 1442695040888963407)), none, 329984, 9, []⟩,
   ⟨(some 42), .nilck (.t 32), none, 330240, 10, []⟩,
   ⟨(some 43), .faddr 2 (.t 42), none, 330496, 11, []⟩,
   ⟨none, .store 1 (.t 43) (.t 41), none, 330752, 12, []⟩])
 (.seq (.seq (.reg [⟨(some 44), .mv (.t 0), none, 393216, 0, []⟩,
   ⟨(some 45), .nilck (.t 44), none, 393472, 1, []⟩,
   ⟨(some 46), .faddr 1 (.t 45), none, 393728, 2, []⟩,
   ⟨(some 47), .load 1 false (.t 46), none, 393984, 3, []⟩,
   ⟨(some 48), .mv (.t 0), none, 394240, 4, []⟩,
   ⟨(some 49), .nilck (.t 48), none, 394496, 5, []⟩,
   ⟨(some 50), .faddr 0 (.t 49), none, 394752, 6, []⟩,
   ⟨(some 51), .load 1 false (.t 50), none, 395008, 7, []⟩,
   ⟨(some 52), .len false (.t 51), none, 395264, 8, []⟩,
   ⟨(some 53), .bin .leq (.t 47) (.t 52), none, 395520, 9, []⟩])
 (.cond (.t 53)
  (.seq (.reg [⟨(some 54), .mv (.t 3), none, 458752, 0, []⟩,
    ⟨(some 2), .mv (.t 54), none, 459008, 1, []⟩])
  (.ret))
  (.skip)))
 (.seq (.reg [⟨(some 55), .mv (.t 0), none, 524288, 0, []⟩,
   ⟨(some 56), .nilck (.t 55), none, 524544, 1, []⟩,
   ⟨(some 57), .faddr 2 (.t 56), none, 524800, 2, []⟩,
   ⟨(some 58), .load 1 false (.t 57), none, 525056, 3, []⟩,
   ⟨(some 59), .bin .shr (.t 58) (.k (.int .u64 40)), none, 525312, 4, []⟩,
   ⟨(some 60), .bin .and (.t 59) (.k (.int .u64 255)), none, 525568, 5, []⟩,
   ⟨(some 61), .conv .i64 (.t 60), none, 525824, 6, []⟩,
   ⟨(some 2), .mv (.t 61), none, 526080, 7, []⟩])
 (.ret)))))))⟩
/-- loop.example/g00849/spec.NewDisk -/
def F59 : F := ⟨1, 26, [.cell 2 2 true, .t 3],
 .seq (.reg [⟨(some 2), .alloc [(.nil true 1), (.nil true 2)], none, 0, 0, []⟩,
   ⟨(some 3), .mv (.k (.int .i64 0)), none, 256, 1, []⟩])
 (.seq (.seq (.reg [⟨(some 7), .mv (.t 0), none, 65536, 0, []⟩,
   ⟨(some 8), .call 39 [(.t 7), (.k (.int .i64 1)), (.k (.int .i64 1200))] true, none, 65792, 1, []⟩,
   ⟨(some 9), .not (.t 8), none, 66048, 2, []⟩])
 (.cond (.t 9)
  (.seq (.reg [⟨(some 10), .build [(.nil true 1), (.nil true 2)] [], none, 131072, 0, []⟩,
    ⟨none, .store 2 (.t 2) (.t 10), none, 131328, 1, []⟩,
    ⟨(some 3), .mv (.k (.int .i64 2)), none, 131584, 2, []⟩])
  (.ret))
  (.skip)))
 (.seq (.reg [⟨(some 11), .build [(.nil true 1), (.nil true 2)] [], none, 196608, 0, []⟩,
   ⟨(some 4), .alloc [(.nil true 1), (.nil true 2)], none, 196864, 1, []⟩,
   ⟨none, .store 2 (.t 4) (.t 11), none, 197120, 2, []⟩])
 (.seq (.reg [⟨(some 12), .mksl true 1 1 [(.int .u8 0)] (.k (.int .i64 64)) (.k (.int .i64 64)), none, 262144, 0, []⟩,
   ⟨(some 13), .b2s (.t 12), none, 262400, 1, []⟩,
   ⟨(some 5), .mv (.t 13), none, 262656, 2, []⟩])
 (.seq (.seq (.reg [⟨(some 6), .mv (.k (.int .i64 0)), none, 327680, 0, []⟩])
 (.block 0 (.loop [0, 2, 4, 5, 6] [0, 1, 2, 131329, 131330, 196864, 196865, 196866, 197121, 197122, 262144, 590081, 590082]
  (.seq (.seq (.reg [⟨(some 14), .mv (.t 6), none, 393216, 0, []⟩,
    ⟨(some 15), .mv (.t 0), none, 393472, 1, []⟩,
    ⟨(some 16), .bin .lss (.t 14) (.t 15), none, 393728, 2, []⟩])
  (.cond (.t 16)
   (.skip)
   (.exit 0)))
  (.seq (.block 1 (.reg [⟨(some 19), .faddr 0 (.t 4), none, 524288, 0, []⟩,
    ⟨(some 20), .load 1 false (.t 19), none, 524544, 1, []⟩,
    ⟨(some 21), .mv (.t 5), none, 524800, 2, []⟩,
    ⟨(some 22), .bslice true 1 [(.str ByteArray.empty)] 1 [(0, (.t 21))], none, 525056, 3, []⟩,
    ⟨(some 23), .app true 1 16 (.t 20) (.t 22), none, 525312, 4, []⟩,
    ⟨(some 24), .faddr 0 (.t 4), none, 525568, 5, []⟩,
    ⟨none, .store 1 (.t 24) (.t 23), none, 525824, 6, []⟩]))
  (.reg [⟨(some 17), .mv (.t 6), none, 458752, 0, []⟩,
    ⟨(some 18), .bin .add (.t 17) (.k (.int .i64 1)), none, 459008, 1, []⟩,
    ⟨(some 6), .mv (.t 18), none, 459264, 2, []⟩]))))))
 (.seq (.reg [⟨(some 25), .load 2 true (.t 4), none, 589824, 0, []⟩,
   ⟨none, .store 2 (.t 2) (.t 25), none, 590080, 1, []⟩,
   ⟨(some 3), .mv (.k (.int .i64 0)), none, 590336, 2, []⟩])
 (.ret))))))⟩
/-- loop.example/g00849/impl.between -/
def F60 : F := ⟨3, 15, [.t 6],
 .seq (.reg [⟨(some 6), .mv (.k (.bool false)), none, 0, 0, []⟩])
 (.seq (.reg [⟨(some 7), .mv (.t 0), none, 65536, 0, []⟩,
   ⟨(some 8), .mv (.t 1), none, 65792, 1, []⟩,
   ⟨(some 9), .bin .geq (.t 7) (.t 8), none, 66048, 2, []⟩,
   ⟨(some 10), .mv (.t 9), none, 66304, 3, []⟩,
   ⟨(some 11), .mv (.t 0), (some (some 10, true)), 66560, 4, []⟩,
   ⟨(some 12), .mv (.t 2), (some (some 10, true)), 66816, 5, []⟩,
   ⟨(some 13), .bin .leq (.t 11) (.t 12), (some (some 10, true)), 67072, 6, []⟩,
   ⟨(some 14), .pick (.t 10) (.t 13) (.k (.bool false)), none, 67328, 7, []⟩,
   ⟨(some 6), .mv (.t 14), none, 67584, 8, []⟩])
 (.ret))⟩
/-- slices.ContainsFunc[[]loop.example/g00849/impl.Pending,loop.example/g00849/impl.Pending] -/
def F61 : F := ⟨2, 9, [.t 4],
 .seq (.reg [⟨(some 4), .mv (.k (.bool false)), none, 0, 0, []⟩])
 (.seq (.reg [⟨(some 5), .mv (.t 0), none, 65536, 0, []⟩,
   ⟨(some 6), .mv (.t 1), none, 65792, 1, []⟩,
   ⟨(some 7), .call 71 [(.t 5), (.t 6)] true, none, 66048, 2, []⟩,
   ⟨(some 8), .bin .geq (.t 7) (.k (.int .i64 0)), none, 66304, 3, []⟩,
   ⟨(some 4), .mv (.t 8), none, 66560, 4, []⟩])
 (.ret))⟩
/-- loop.example/g00849/impl.DiskOk$1 -/
def F62 : F := ⟨2, 17, [.t 3],
 .seq (.reg [⟨(some 2), .box (.t 0), none, 0, 0, []⟩,
   ⟨(some 3), .mv (.k (.bool false)), none, 256, 1, []⟩])
 (.seq (.reg [⟨(some 4), .faddr 0 (.t 2), none, 65536, 0, []⟩,
   ⟨(some 5), .load 1 false (.t 4), none, 65792, 1, []⟩,
   ⟨(some 6), .faddr 0 (.t 1), none, 66048, 2, []⟩,
   ⟨(some 7), .load 1 false (.t 6), none, 66304, 3, []⟩,
   ⟨(some 8), .len false (.t 7), none, 66560, 4, []⟩,
   ⟨(some 9), .call 42 [(.t 5), (.t 8)] true, none, 66816, 5, []⟩,
   ⟨(some 10), .not (.t 9), none, 67072, 6, []⟩,
   ⟨(some 11), .mv (.t 10), none, 67328, 7, []⟩,
   ⟨(some 12), .faddr 1 (.t 2), (some (some 11, false)), 67584, 8, []⟩,
   ⟨(some 13), .load 1 false (.t 12), (some (some 11, false)), 67840, 9, []⟩,
   ⟨(some 14), .call 41 [(.t 13)] true, (some (some 11, false)), 68096, 10, []⟩,
   ⟨(some 15), .not (.t 14), (some (some 11, false)), 68352, 11, []⟩,
   ⟨(some 16), .pick (.t 11) (.k (.bool true)) (.t 15), none, 68608, 12, []⟩,
   ⟨(some 3), .mv (.t 16), none, 68864, 13, []⟩])
 (.ret))⟩
/-- (loop.example/g00849/impl.Disk).clone -/
def F63 : F := ⟨1, 10, [.cell 2 2 true],
 .seq (.reg [⟨(some 1), .box (.t 0), none, 0, 0, []⟩,
   ⟨(some 2), .alloc [(.nil true 1), (.nil true 2)], none, 256, 1, []⟩])
 (.seq (.reg [⟨(some 3), .faddr 0 (.t 1), none, 65536, 0, []⟩,
   ⟨(some 4), .load 1 false (.t 3), none, 65792, 1, []⟩,
   ⟨(some 5), .call 66 [(.t 4)] false, none, 66048, 2, [(.t 1)]⟩,
   ⟨(some 6), .faddr 1 (.t 1), none, 66304, 3, []⟩,
   ⟨(some 7), .load 1 false (.t 6), none, 66560, 4, [(.t 1)]⟩,
   ⟨(some 8), .call 72 [(.t 7)] false, none, 66816, 5, []⟩,
   ⟨(some 9), .build [(.nil true 1), (.nil true 2)] [(0, 1, (.t 5)), (1, 1, (.t 8))], none, 67072, 6, []⟩,
   ⟨none, .store 2 (.t 2) (.t 9), none, 67328, 7, []⟩])
 (.ret))⟩
/-- loop.example/g00849/impl.increasing -/
def F64 : F := ⟨1, 20, [.t 2],
 .seq (.reg [⟨(some 2), .mv (.k (.bool false)), none, 0, 0, []⟩])
 (.seq (.seq (.reg [⟨(some 3), .mv (.k (.int .i64 1)), none, 65536, 0, []⟩])
 (.block 0 (.loop [0, 3] []
  (.seq (.seq (.reg [⟨(some 4), .mv (.t 3), none, 131072, 0, []⟩,
    ⟨(some 5), .mv (.t 0), none, 131328, 1, []⟩,
    ⟨(some 6), .len false (.t 5), none, 131584, 2, []⟩,
    ⟨(some 7), .bin .lss (.t 4) (.t 6), none, 131840, 3, []⟩])
  (.cond (.t 7)
   (.skip)
   (.exit 0)))
  (.seq (.block 1 (.seq (.reg [⟨(some 10), .mv (.t 0), none, 262144, 0, []⟩,
    ⟨(some 11), .mv (.t 3), none, 262400, 1, []⟩,
    ⟨(some 12), .iaddr 1 (.t 10) (.t 11), none, 262656, 2, []⟩,
    ⟨(some 13), .load 1 false (.t 12), none, 262912, 3, []⟩,
    ⟨(some 14), .mv (.t 0), none, 263168, 4, []⟩,
    ⟨(some 15), .mv (.t 3), none, 263424, 5, []⟩,
    ⟨(some 16), .bin .sub (.t 15) (.k (.int .i64 1)), none, 263680, 6, []⟩,
    ⟨(some 17), .iaddr 1 (.t 14) (.t 16), none, 263936, 7, []⟩,
    ⟨(some 18), .load 1 false (.t 17), none, 264192, 8, []⟩,
    ⟨(some 19), .bin .leq (.t 13) (.t 18), none, 264448, 9, []⟩])
  (.cond (.t 19)
   (.seq (.reg [⟨(some 2), .mv (.k (.bool false)), none, 327680, 0, []⟩])
   (.ret))
   (.skip))))
  (.reg [⟨(some 8), .mv (.t 3), none, 196608, 0, []⟩,
    ⟨(some 9), .bin .add (.t 8) (.k (.int .i64 1)), none, 196864, 1, []⟩,
    ⟨(some 3), .mv (.t 9), none, 197120, 2, []⟩]))))))
 (.seq (.reg [⟨(some 2), .mv (.k (.bool true)), none, 393216, 0, []⟩])
 (.ret)))⟩
/-- loop.example/g00849/impl.allBetween -/
def F65 : F := ⟨3, 11, [.t 6],
 .seq (.reg [⟨(some 4), .box (.t 1), none, 0, 0, []⟩,
   ⟨(some 5), .box (.t 2), none, 256, 1, []⟩,
   ⟨(some 6), .mv (.k (.bool false)), none, 512, 2, []⟩])
 (.seq (.reg [⟨(some 7), .mv (.t 0), none, 65536, 0, []⟩,
   ⟨(some 8), .mkf 74 [(.t 4), (.t 5)], none, 65792, 1, []⟩,
   ⟨(some 9), .call 73 [(.t 7), (.t 8)] true, none, 66048, 2, []⟩,
   ⟨(some 10), .not (.t 9), none, 66304, 3, []⟩,
   ⟨(some 6), .mv (.t 10), none, 66560, 4, []⟩])
 (.ret))⟩
/-- slices.Clone[[]string,string] -/
def F66 : F := ⟨1, 8, [.t 2],
 .seq (.reg [⟨(some 2), .nil0 true 1, none, 0, 0, []⟩])
 (.seq (.seq (.reg [⟨(some 3), .mv (.t 0), none, 65536, 0, []⟩])
 (.ifnil false 4 (.t 3)
  (.seq (.reg [⟨(some 2), .nil0 true 1, none, 131072, 0, []⟩])
  (.ret))
  (.skip)))
 (.seq (.reg [⟨(some 5), .bslice true 1 [(.str ByteArray.empty)] 0 [], none, 196608, 0, []⟩,
   ⟨(some 6), .mv (.t 0), none, 196864, 1, []⟩,
   ⟨(some 7), .app true 1 16 (.t 5) (.t 6), none, 197120, 2, []⟩,
   ⟨(some 2), .mv (.t 7), none, 197376, 3, []⟩])
 (.ret)))⟩
/-- slices.IndexFunc[[]loop.example/g00849/impl.Pending,loop.example/g00849/impl.Pending] -/
def F71 : F := ⟨2, 19, [.t 4],
 .seq (.reg [⟨(some 4), .mv (.k (.int .i64 0)), none, 0, 0, []⟩])
 (.seq (.seq (.reg [⟨(some 6), .mv (.t 0), none, 65536, 0, []⟩,
   ⟨(some 7), .len false (.t 6), none, 65792, 1, []⟩,
   ⟨(some 8), .mv (.k (.int .i64 0)), none, 66048, 2, []⟩])
 (.block 0 (.loop [0, 1, 7, 8] []
  (.seq (.reg [⟨(some 9), .bin .lss (.t 8) (.t 7), none, 131072, 0, []⟩])
  (.seq (.cond (.t 9)
   (.skip)
   (.exit 0))
  (.seq (.block 1 (.seq (.reg [⟨(some 10), .mv (.t 8), none, 196608, 0, []⟩,
    ⟨(some 5), .mv (.t 10), none, 196864, 1, []⟩])
  (.seq (.reg [⟨(some 11), .mv (.t 1), none, 262144, 0, []⟩,
    ⟨(some 12), .mv (.t 0), none, 262400, 1, []⟩,
    ⟨(some 13), .mv (.t 5), none, 262656, 2, []⟩,
    ⟨(some 14), .iaddr 2 (.t 12) (.t 13), none, 262912, 3, []⟩,
    ⟨(some 15), .load 2 true (.t 14), none, 263168, 4, []⟩,
    ⟨(some 16), .callv (.t 11) [(.t 15)] true, none, 263424, 5, []⟩])
  (.cond (.t 16)
   (.seq (.reg [⟨(some 17), .mv (.t 5), none, 327680, 0, []⟩,
     ⟨(some 4), .mv (.t 17), none, 327936, 1, []⟩])
   (.ret))
   (.skip)))))
  (.reg [⟨(some 18), .bin .add (.t 8) (.k (.int .i64 1)), none, 393216, 0, []⟩,
    ⟨(some 8), .mv (.t 18), none, 393472, 1, []⟩])))))))
 (.seq (.reg [⟨(some 4), .mv (.k (.int .i64 (-1))), none, 458752, 0, []⟩])
 (.ret)))⟩
/-- slices.Clone[[]loop.example/g00849/impl.Pending,loop.example/g00849/impl.Pending] -/
def F72 : F := ⟨1, 8, [.t 2],
 .seq (.reg [⟨(some 2), .nil0 true 2, none, 0, 0, []⟩])
 (.seq (.seq (.reg [⟨(some 3), .mv (.t 0), none, 65536, 0, []⟩])
 (.ifnil false 4 (.t 3)
  (.seq (.reg [⟨(some 2), .nil0 true 2, none, 131072, 0, []⟩])
  (.ret))
  (.skip)))
 (.seq (.reg [⟨(some 5), .bslice true 2 [(.int .i64 0), (.str ByteArray.empty)] 0 [], none, 196608, 0, []⟩,
   ⟨(some 6), .mv (.t 0), none, 196864, 1, []⟩,
   ⟨(some 7), .app true 2 24 (.t 5) (.t 6), none, 197120, 2, []⟩,
   ⟨(some 2), .mv (.t 7), none, 197376, 3, []⟩])
 (.ret)))⟩
/-- slices.ContainsFunc[[]int64,int64] -/
def F73 : F := ⟨2, 9, [.t 4],
 .seq (.reg [⟨(some 4), .mv (.k (.bool false)), none, 0, 0, []⟩])
 (.seq (.reg [⟨(some 5), .mv (.t 0), none, 65536, 0, []⟩,
   ⟨(some 6), .mv (.t 1), none, 65792, 1, []⟩,
   ⟨(some 7), .call 75 [(.t 5), (.t 6)] true, none, 66048, 2, []⟩,
   ⟨(some 8), .bin .geq (.t 7) (.k (.int .i64 0)), none, 66304, 3, []⟩,
   ⟨(some 4), .mv (.t 8), none, 66560, 4, []⟩])
 (.ret))⟩
/-- loop.example/g00849/impl.allBetween$1 -/
def F74 : F := ⟨3, 10, [.t 4],
 .seq (.reg [⟨(some 4), .mv (.k (.bool false)), none, 0, 0, []⟩])
 (.seq (.reg [⟨(some 5), .mv (.t 0), none, 65536, 0, []⟩,
   ⟨(some 6), .load 1 false (.t 1), none, 65792, 1, []⟩,
   ⟨(some 7), .load 1 false (.t 2), none, 66048, 2, []⟩,
   ⟨(some 8), .call 60 [(.t 5), (.t 6), (.t 7)] true, none, 66304, 3, []⟩,
   ⟨(some 9), .not (.t 8), none, 66560, 4, []⟩,
   ⟨(some 4), .mv (.t 9), none, 66816, 5, []⟩])
 (.ret))⟩
/-- slices.IndexFunc[[]int64,int64] -/
def F75 : F := ⟨2, 19, [.t 4],
 .seq (.reg [⟨(some 4), .mv (.k (.int .i64 0)), none, 0, 0, []⟩])
 (.seq (.seq (.reg [⟨(some 6), .mv (.t 0), none, 65536, 0, []⟩,
   ⟨(some 7), .len false (.t 6), none, 65792, 1, []⟩,
   ⟨(some 8), .mv (.k (.int .i64 0)), none, 66048, 2, []⟩])
 (.block 0 (.loop [0, 1, 7, 8] []
  (.seq (.reg [⟨(some 9), .bin .lss (.t 8) (.t 7), none, 131072, 0, []⟩])
  (.seq (.cond (.t 9)
   (.skip)
   (.exit 0))
  (.seq (.block 1 (.seq (.reg [⟨(some 10), .mv (.t 8), none, 196608, 0, []⟩,
    ⟨(some 5), .mv (.t 10), none, 196864, 1, []⟩])
  (.seq (.reg [⟨(some 11), .mv (.t 1), none, 262144, 0, []⟩,
    ⟨(some 12), .mv (.t 0), none, 262400, 1, []⟩,
    ⟨(some 13), .mv (.t 5), none, 262656, 2, []⟩,
    ⟨(some 14), .iaddr 1 (.t 12) (.t 13), none, 262912, 3, []⟩,
    ⟨(some 15), .load 1 false (.t 14), none, 263168, 4, []⟩,
    ⟨(some 16), .callv (.t 11) [(.t 15)] true, none, 263424, 5, []⟩])
  (.cond (.t 16)
   (.seq (.reg [⟨(some 17), .mv (.t 5), none, 327680, 0, []⟩,
     ⟨(some 4), .mv (.t 17), none, 327936, 1, []⟩])
   (.ret))
   (.skip)))))
  (.reg [⟨(some 18), .bin .add (.t 8) (.k (.int .i64 1)), none, 393216, 0, []⟩,
    ⟨(some 8), .mv (.t 18), none, 393472, 1, []⟩])))))))
 (.seq (.reg [⟨(some 4), .mv (.k (.int .i64 (-1))), none, 458752, 0, []⟩])
 (.ret)))⟩
def fns : Nat → Option F
  | 3 => some F3
  | 4 => some F4
  | 8 => some F8
  | 9 => some F9
  | 10 => some F10
  | 11 => some F11
  | 12 => some F12
  | 13 => some F13
  | 14 => some F14
  | 15 => some F15
  | 16 => some F16
  | 17 => some F17
  | 31 => some F31
  | 32 => some F32
  | 33 => some F33
  | 34 => some F34
  | 35 => some F35
  | 36 => some F36
  | 37 => some F37
  | 38 => some F38
  | 39 => some F39
  | 40 => some F40
  | 41 => some F41
  | 42 => some F42
  | 43 => some F43
  | 44 => some F44
  | 45 => some F45
  | 58 => some F58
  | 59 => some F59
  | 60 => some F60
  | 61 => some F61
  | 62 => some F62
  | 63 => some F63
  | 64 => some F64
  | 65 => some F65
  | 66 => some F66
  | 71 => some F71
  | 72 => some F72
  | 73 => some F73
  | 74 => some F74
  | 75 => some F75
  | _ => none
def code : Prog := ⟨fns, md, fun _ => none⟩
theorem fn3 : code.fn 3 = some F3 := rfl
theorem fn4 : code.fn 4 = some F4 := rfl
theorem fn8 : code.fn 8 = some F8 := rfl
theorem fn9 : code.fn 9 = some F9 := rfl
theorem fn10 : code.fn 10 = some F10 := rfl
theorem fn11 : code.fn 11 = some F11 := rfl
theorem fn12 : code.fn 12 = some F12 := rfl
theorem fn13 : code.fn 13 = some F13 := rfl
theorem fn14 : code.fn 14 = some F14 := rfl
theorem fn15 : code.fn 15 = some F15 := rfl
theorem fn16 : code.fn 16 = some F16 := rfl
theorem fn17 : code.fn 17 = some F17 := rfl
theorem fn31 : code.fn 31 = some F31 := rfl
theorem fn32 : code.fn 32 = some F32 := rfl
theorem fn33 : code.fn 33 = some F33 := rfl
theorem fn34 : code.fn 34 = some F34 := rfl
theorem fn35 : code.fn 35 = some F35 := rfl
theorem fn36 : code.fn 36 = some F36 := rfl
theorem fn37 : code.fn 37 = some F37 := rfl
theorem fn38 : code.fn 38 = some F38 := rfl
theorem fn39 : code.fn 39 = some F39 := rfl
theorem fn40 : code.fn 40 = some F40 := rfl
theorem fn41 : code.fn 41 = some F41 := rfl
theorem fn42 : code.fn 42 = some F42 := rfl
theorem fn43 : code.fn 43 = some F43 := rfl
theorem fn44 : code.fn 44 = some F44 := rfl
theorem fn45 : code.fn 45 = some F45 := rfl
theorem fn58 : code.fn 58 = some F58 := rfl
theorem fn59 : code.fn 59 = some F59 := rfl
theorem fn60 : code.fn 60 = some F60 := rfl
theorem fn61 : code.fn 61 = some F61 := rfl
theorem fn62 : code.fn 62 = some F62 := rfl
theorem fn63 : code.fn 63 = some F63 := rfl
theorem fn64 : code.fn 64 = some F64 := rfl
theorem fn65 : code.fn 65 = some F65 := rfl
theorem fn66 : code.fn 66 = some F66 := rfl
theorem fn71 : code.fn 71 = some F71 := rfl
theorem fn72 : code.fn 72 = some F72 := rfl
theorem fn73 : code.fn 73 = some F73 := rfl
theorem fn74 : code.fn 74 = some F74 := rfl
theorem fn75 : code.fn 75 = some F75 := rfl
theorem rcall3 {O : Oracle} {st : St} {Q : Ex → St → Prop} {fs : List Fr} {d : Option Nat} {b i : Nat} {ap : List X} {r : List IOp} (xs : List X) (fl : Bool) : RunO O code.md (⟨d, .call 3 xs fl, none, b, i, ap⟩ :: r) fs st Q = (quietOk st (.call 3 xs fl) ap = true ∧ RunQ O code.md (callVal O st b 3 (evalXs st xs) fl) d r fs st Q) := R_call 3 xs fl rfl
theorem rcall4 {O : Oracle} {st : St} {Q : Ex → St → Prop} {fs : List Fr} {d : Option Nat} {b i : Nat} {ap : List X} {r : List IOp} (xs : List X) (fl : Bool) : RunO O code.md (⟨d, .call 4 xs fl, none, b, i, ap⟩ :: r) fs st Q = (quietOk st (.call 4 xs fl) ap = true ∧ RunQ O code.md (callVal O st b 4 (evalXs st xs) fl) d r fs st Q) := R_call 4 xs fl rfl
theorem rcall8 {O : Oracle} {st : St} {Q : Ex → St → Prop} {fs : List Fr} {d : Option Nat} {b i : Nat} {ap : List X} {r : List IOp} (xs : List X) (fl : Bool) : RunO O code.md (⟨d, .call 8 xs fl, none, b, i, ap⟩ :: r) fs st Q = (quietOk st (.call 8 xs fl) ap = true ∧ RunQ O code.md (callVal O st b 8 (evalXs st xs) fl) d r fs st Q) := R_call 8 xs fl rfl
theorem rcall9 {O : Oracle} {st : St} {Q : Ex → St → Prop} {fs : List Fr} {d : Option Nat} {b i : Nat} {ap : List X} {r : List IOp} (xs : List X) (fl : Bool) : RunO O code.md (⟨d, .call 9 xs fl, none, b, i, ap⟩ :: r) fs st Q = (quietOk st (.call 9 xs fl) ap = true ∧ RunQ O code.md (callVal O st b 9 (evalXs st xs) fl) d r fs st Q) := R_call 9 xs fl rfl
theorem rcall10 {O : Oracle} {st : St} {Q : Ex → St → Prop} {fs : List Fr} {d : Option Nat} {b i : Nat} {ap : List X} {r : List IOp} (xs : List X) (fl : Bool) : RunO O code.md (⟨d, .call 10 xs fl, none, b, i, ap⟩ :: r) fs st Q = (quietOk st (.call 10 xs fl) ap = true ∧ RunQ O code.md (callVal O st b 10 (evalXs st xs) fl) d r fs st Q) := R_call 10 xs fl rfl
theorem rcall11 {O : Oracle} {st : St} {Q : Ex → St → Prop} {fs : List Fr} {d : Option Nat} {b i : Nat} {ap : List X} {r : List IOp} (xs : List X) (fl : Bool) : RunO O code.md (⟨d, .call 11 xs fl, none, b, i, ap⟩ :: r) fs st Q = (quietOk st (.call 11 xs fl) ap = true ∧ RunQ O code.md (callVal O st b 11 (evalXs st xs) fl) d r fs st Q) := R_call 11 xs fl rfl
theorem rcall12 {O : Oracle} {st : St} {Q : Ex → St → Prop} {fs : List Fr} {d : Option Nat} {b i : Nat} {ap : List X} {r : List IOp} (xs : List X) (fl : Bool) : RunO O code.md (⟨d, .call 12 xs fl, none, b, i, ap⟩ :: r) fs st Q = (quietOk st (.call 12 xs fl) ap = true ∧ RunQ O code.md (callVal O st b 12 (evalXs st xs) fl) d r fs st Q) := R_call 12 xs fl rfl
theorem rcall13 {O : Oracle} {st : St} {Q : Ex → St → Prop} {fs : List Fr} {d : Option Nat} {b i : Nat} {ap : List X} {r : List IOp} (xs : List X) (fl : Bool) : RunO O code.md (⟨d, .call 13 xs fl, none, b, i, ap⟩ :: r) fs st Q = (quietOk st (.call 13 xs fl) ap = true ∧ RunQ O code.md (callVal O st b 13 (evalXs st xs) fl) d r fs st Q) := R_call 13 xs fl rfl
theorem rcall14 {O : Oracle} {st : St} {Q : Ex → St → Prop} {fs : List Fr} {d : Option Nat} {b i : Nat} {ap : List X} {r : List IOp} (xs : List X) (fl : Bool) : RunO O code.md (⟨d, .call 14 xs fl, none, b, i, ap⟩ :: r) fs st Q = (quietOk st (.call 14 xs fl) ap = true ∧ RunQ O code.md (callVal O st b 14 (evalXs st xs) fl) d r fs st Q) := R_call 14 xs fl rfl
theorem rcall15 {O : Oracle} {st : St} {Q : Ex → St → Prop} {fs : List Fr} {d : Option Nat} {b i : Nat} {ap : List X} {r : List IOp} (xs : List X) (fl : Bool) : RunO O code.md (⟨d, .call 15 xs fl, none, b, i, ap⟩ :: r) fs st Q = (quietOk st (.call 15 xs fl) ap = true ∧ RunQ O code.md (callVal O st b 15 (evalXs st xs) fl) d r fs st Q) := R_call 15 xs fl rfl
theorem rcall16 {O : Oracle} {st : St} {Q : Ex → St → Prop} {fs : List Fr} {d : Option Nat} {b i : Nat} {ap : List X} {r : List IOp} (xs : List X) (fl : Bool) : RunO O code.md (⟨d, .call 16 xs fl, none, b, i, ap⟩ :: r) fs st Q = (quietOk st (.call 16 xs fl) ap = true ∧ RunQ O code.md (callVal O st b 16 (evalXs st xs) fl) d r fs st Q) := R_call 16 xs fl rfl
theorem rcall17 {O : Oracle} {st : St} {Q : Ex → St → Prop} {fs : List Fr} {d : Option Nat} {b i : Nat} {ap : List X} {r : List IOp} (xs : List X) (fl : Bool) : RunO O code.md (⟨d, .call 17 xs fl, none, b, i, ap⟩ :: r) fs st Q = (quietOk st (.call 17 xs fl) ap = true ∧ RunQ O code.md (callVal O st b 17 (evalXs st xs) fl) d r fs st Q) := R_call 17 xs fl rfl
theorem rcall31 {O : Oracle} {st : St} {Q : Ex → St → Prop} {fs : List Fr} {d : Option Nat} {b i : Nat} {ap : List X} {r : List IOp} (xs : List X) (fl : Bool) : RunO O code.md (⟨d, .call 31 xs fl, none, b, i, ap⟩ :: r) fs st Q = (quietOk st (.call 31 xs fl) ap = true ∧ RunQ O code.md (callVal O st b 31 (evalXs st xs) fl) d r fs st Q) := R_call 31 xs fl rfl
theorem rcall32 {O : Oracle} {st : St} {Q : Ex → St → Prop} {fs : List Fr} {d : Option Nat} {b i : Nat} {ap : List X} {r : List IOp} (xs : List X) (fl : Bool) : RunO O code.md (⟨d, .call 32 xs fl, none, b, i, ap⟩ :: r) fs st Q = ((apartOk st (.call 32 xs fl) ap && keyedOk st ap) = true ∧ RunK O code.md (callRef O st b 32 (evalXs st xs) fl) st (.call 32 xs fl) ap d r fs Q) := R_callr 32 xs fl rfl
theorem rcall33 {O : Oracle} {st : St} {Q : Ex → St → Prop} {fs : List Fr} {d : Option Nat} {b i : Nat} {ap : List X} {r : List IOp} (xs : List X) (fl : Bool) : RunO O code.md (⟨d, .call 33 xs fl, none, b, i, ap⟩ :: r) fs st Q = ((apartOk st (.call 33 xs fl) ap && keyedOk st ap) = true ∧ RunK O code.md (callRef O st b 33 (evalXs st xs) fl) st (.call 33 xs fl) ap d r fs Q) := R_callr 33 xs fl rfl
theorem rcall34 {O : Oracle} {st : St} {Q : Ex → St → Prop} {fs : List Fr} {d : Option Nat} {b i : Nat} {ap : List X} {r : List IOp} (xs : List X) (fl : Bool) : RunO O code.md (⟨d, .call 34 xs fl, none, b, i, ap⟩ :: r) fs st Q = (quietOk st (.call 34 xs fl) ap = true ∧ RunQ O code.md (callVal O st b 34 (evalXs st xs) fl) d r fs st Q) := R_call 34 xs fl rfl
theorem rcall35 {O : Oracle} {st : St} {Q : Ex → St → Prop} {fs : List Fr} {d : Option Nat} {b i : Nat} {ap : List X} {r : List IOp} (xs : List X) (fl : Bool) : RunO O code.md (⟨d, .call 35 xs fl, none, b, i, ap⟩ :: r) fs st Q = (quietOk st (.call 35 xs fl) ap = true ∧ RunQ O code.md (callVal O st b 35 (evalXs st xs) fl) d r fs st Q) := R_call 35 xs fl rfl
theorem rcall36 {O : Oracle} {st : St} {Q : Ex → St → Prop} {fs : List Fr} {d : Option Nat} {b i : Nat} {ap : List X} {r : List IOp} (xs : List X) (fl : Bool) : RunO O code.md (⟨d, .call 36 xs fl, none, b, i, ap⟩ :: r) fs st Q = (quietOk st (.call 36 xs fl) ap = true ∧ RunQ O code.md (callVal O st b 36 (evalXs st xs) fl) d r fs st Q) := R_call 36 xs fl rfl
theorem rcall37 {O : Oracle} {st : St} {Q : Ex → St → Prop} {fs : List Fr} {d : Option Nat} {b i : Nat} {ap : List X} {r : List IOp} (xs : List X) (fl : Bool) : RunO O code.md (⟨d, .call 37 xs fl, none, b, i, ap⟩ :: r) fs st Q = ((apartOk st (.call 37 xs fl) ap && keyedOk st ap) = true ∧ RunK O code.md (callRef O st b 37 (evalXs st xs) fl) st (.call 37 xs fl) ap d r fs Q) := R_callr 37 xs fl rfl
theorem rcall38 {O : Oracle} {st : St} {Q : Ex → St → Prop} {fs : List Fr} {d : Option Nat} {b i : Nat} {ap : List X} {r : List IOp} (xs : List X) (fl : Bool) : RunO O code.md (⟨d, .call 38 xs fl, none, b, i, ap⟩ :: r) fs st Q = ((apartOk st (.call 38 xs fl) ap && keyedOk st ap) = true ∧ RunK O code.md (callRef O st b 38 (evalXs st xs) fl) st (.call 38 xs fl) ap d r fs Q) := R_callr 38 xs fl rfl
theorem rcall39 {O : Oracle} {st : St} {Q : Ex → St → Prop} {fs : List Fr} {d : Option Nat} {b i : Nat} {ap : List X} {r : List IOp} (xs : List X) (fl : Bool) : RunO O code.md (⟨d, .call 39 xs fl, none, b, i, ap⟩ :: r) fs st Q = (quietOk st (.call 39 xs fl) ap = true ∧ RunQ O code.md (callVal O st b 39 (evalXs st xs) fl) d r fs st Q) := R_call 39 xs fl rfl
theorem rcall40 {O : Oracle} {st : St} {Q : Ex → St → Prop} {fs : List Fr} {d : Option Nat} {b i : Nat} {ap : List X} {r : List IOp} (xs : List X) (fl : Bool) : RunO O code.md (⟨d, .call 40 xs fl, none, b, i, ap⟩ :: r) fs st Q = (quietOk st (.call 40 xs fl) ap = true ∧ RunQ O code.md (callVal O st b 40 (evalXs st xs) fl) d r fs st Q) := R_call 40 xs fl rfl
theorem rcall41 {O : Oracle} {st : St} {Q : Ex → St → Prop} {fs : List Fr} {d : Option Nat} {b i : Nat} {ap : List X} {r : List IOp} (xs : List X) (fl : Bool) : RunO O code.md (⟨d, .call 41 xs fl, none, b, i, ap⟩ :: r) fs st Q = (quietOk st (.call 41 xs fl) ap = true ∧ RunQ O code.md (callVal O st b 41 (evalXs st xs) fl) d r fs st Q) := R_call 41 xs fl rfl
theorem rcall42 {O : Oracle} {st : St} {Q : Ex → St → Prop} {fs : List Fr} {d : Option Nat} {b i : Nat} {ap : List X} {r : List IOp} (xs : List X) (fl : Bool) : RunO O code.md (⟨d, .call 42 xs fl, none, b, i, ap⟩ :: r) fs st Q = (quietOk st (.call 42 xs fl) ap = true ∧ RunQ O code.md (callVal O st b 42 (evalXs st xs) fl) d r fs st Q) := R_call 42 xs fl rfl
theorem rcall43 {O : Oracle} {st : St} {Q : Ex → St → Prop} {fs : List Fr} {d : Option Nat} {b i : Nat} {ap : List X} {r : List IOp} (xs : List X) (fl : Bool) : RunO O code.md (⟨d, .call 43 xs fl, none, b, i, ap⟩ :: r) fs st Q = (quietOk st (.call 43 xs fl) ap = true ∧ RunQ O code.md (callVal O st b 43 (evalXs st xs) fl) d r fs st Q) := R_call 43 xs fl rfl
theorem rcall44 {O : Oracle} {st : St} {Q : Ex → St → Prop} {fs : List Fr} {d : Option Nat} {b i : Nat} {ap : List X} {r : List IOp} (xs : List X) (fl : Bool) : RunO O code.md (⟨d, .call 44 xs fl, none, b, i, ap⟩ :: r) fs st Q = (quietOk st (.call 44 xs fl) ap = true ∧ RunQ O code.md (callVal O st b 44 (evalXs st xs) fl) d r fs st Q) := R_call 44 xs fl rfl
theorem rcall45 {O : Oracle} {st : St} {Q : Ex → St → Prop} {fs : List Fr} {d : Option Nat} {b i : Nat} {ap : List X} {r : List IOp} (xs : List X) (fl : Bool) : RunO O code.md (⟨d, .call 45 xs fl, none, b, i, ap⟩ :: r) fs st Q = (quietOk st (.call 45 xs fl) ap = true ∧ RunQ O code.md (callVal O st b 45 (evalXs st xs) fl) d r fs st Q) := R_call 45 xs fl rfl
theorem rcall58 {O : Oracle} {st : St} {Q : Ex → St → Prop} {fs : List Fr} {d : Option Nat} {b i : Nat} {ap : List X} {r : List IOp} (xs : List X) (fl : Bool) : RunO O code.md (⟨d, .call 58 xs fl, none, b, i, ap⟩ :: r) fs st Q = ((apartOk st (.call 58 xs fl) ap && keyedOk st ap) = true ∧ RunK O code.md (callRef O st b 58 (evalXs st xs) fl) st (.call 58 xs fl) ap d r fs Q) := R_callr 58 xs fl rfl
theorem rcall59 {O : Oracle} {st : St} {Q : Ex → St → Prop} {fs : List Fr} {d : Option Nat} {b i : Nat} {ap : List X} {r : List IOp} (xs : List X) (fl : Bool) : RunO O code.md (⟨d, .call 59 xs fl, none, b, i, ap⟩ :: r) fs st Q = (quietOk st (.call 59 xs fl) ap = true ∧ RunQ O code.md (callVal O st b 59 (evalXs st xs) fl) d r fs st Q) := R_call 59 xs fl rfl
theorem rcall60 {O : Oracle} {st : St} {Q : Ex → St → Prop} {fs : List Fr} {d : Option Nat} {b i : Nat} {ap : List X} {r : List IOp} (xs : List X) (fl : Bool) : RunO O code.md (⟨d, .call 60 xs fl, none, b, i, ap⟩ :: r) fs st Q = (quietOk st (.call 60 xs fl) ap = true ∧ RunQ O code.md (callVal O st b 60 (evalXs st xs) fl) d r fs st Q) := R_call 60 xs fl rfl
theorem rcall61 {O : Oracle} {st : St} {Q : Ex → St → Prop} {fs : List Fr} {d : Option Nat} {b i : Nat} {ap : List X} {r : List IOp} (xs : List X) (fl : Bool) : RunO O code.md (⟨d, .call 61 xs fl, none, b, i, ap⟩ :: r) fs st Q = (quietOk st (.call 61 xs fl) ap = true ∧ RunQ O code.md (callVal O st b 61 (evalXs st xs) fl) d r fs st Q) := R_call 61 xs fl rfl
theorem rcall62 {O : Oracle} {st : St} {Q : Ex → St → Prop} {fs : List Fr} {d : Option Nat} {b i : Nat} {ap : List X} {r : List IOp} (xs : List X) (fl : Bool) : RunO O code.md (⟨d, .call 62 xs fl, none, b, i, ap⟩ :: r) fs st Q = (quietOk st (.call 62 xs fl) ap = true ∧ RunQ O code.md (callVal O st b 62 (evalXs st xs) fl) d r fs st Q) := R_call 62 xs fl rfl
theorem rcall63 {O : Oracle} {st : St} {Q : Ex → St → Prop} {fs : List Fr} {d : Option Nat} {b i : Nat} {ap : List X} {r : List IOp} (xs : List X) (fl : Bool) : RunO O code.md (⟨d, .call 63 xs fl, none, b, i, ap⟩ :: r) fs st Q = (quietOk st (.call 63 xs fl) ap = true ∧ RunQ O code.md (callVal O st b 63 (evalXs st xs) fl) d r fs st Q) := R_call 63 xs fl rfl
theorem rcall64 {O : Oracle} {st : St} {Q : Ex → St → Prop} {fs : List Fr} {d : Option Nat} {b i : Nat} {ap : List X} {r : List IOp} (xs : List X) (fl : Bool) : RunO O code.md (⟨d, .call 64 xs fl, none, b, i, ap⟩ :: r) fs st Q = (quietOk st (.call 64 xs fl) ap = true ∧ RunQ O code.md (callVal O st b 64 (evalXs st xs) fl) d r fs st Q) := R_call 64 xs fl rfl
theorem rcall65 {O : Oracle} {st : St} {Q : Ex → St → Prop} {fs : List Fr} {d : Option Nat} {b i : Nat} {ap : List X} {r : List IOp} (xs : List X) (fl : Bool) : RunO O code.md (⟨d, .call 65 xs fl, none, b, i, ap⟩ :: r) fs st Q = (quietOk st (.call 65 xs fl) ap = true ∧ RunQ O code.md (callVal O st b 65 (evalXs st xs) fl) d r fs st Q) := R_call 65 xs fl rfl
theorem rcall66 {O : Oracle} {st : St} {Q : Ex → St → Prop} {fs : List Fr} {d : Option Nat} {b i : Nat} {ap : List X} {r : List IOp} (xs : List X) (fl : Bool) : RunO O code.md (⟨d, .call 66 xs fl, none, b, i, ap⟩ :: r) fs st Q = (quietOk st (.call 66 xs fl) ap = true ∧ RunQ O code.md (callVal O st b 66 (evalXs st xs) fl) d r fs st Q) := R_call 66 xs fl rfl
theorem rcall71 {O : Oracle} {st : St} {Q : Ex → St → Prop} {fs : List Fr} {d : Option Nat} {b i : Nat} {ap : List X} {r : List IOp} (xs : List X) (fl : Bool) : RunO O code.md (⟨d, .call 71 xs fl, none, b, i, ap⟩ :: r) fs st Q = (quietOk st (.call 71 xs fl) ap = true ∧ RunQ O code.md (callVal O st b 71 (evalXs st xs) fl) d r fs st Q) := R_call 71 xs fl rfl
theorem rcall72 {O : Oracle} {st : St} {Q : Ex → St → Prop} {fs : List Fr} {d : Option Nat} {b i : Nat} {ap : List X} {r : List IOp} (xs : List X) (fl : Bool) : RunO O code.md (⟨d, .call 72 xs fl, none, b, i, ap⟩ :: r) fs st Q = (quietOk st (.call 72 xs fl) ap = true ∧ RunQ O code.md (callVal O st b 72 (evalXs st xs) fl) d r fs st Q) := R_call 72 xs fl rfl
theorem rcall73 {O : Oracle} {st : St} {Q : Ex → St → Prop} {fs : List Fr} {d : Option Nat} {b i : Nat} {ap : List X} {r : List IOp} (xs : List X) (fl : Bool) : RunO O code.md (⟨d, .call 73 xs fl, none, b, i, ap⟩ :: r) fs st Q = (quietOk st (.call 73 xs fl) ap = true ∧ RunQ O code.md (callVal O st b 73 (evalXs st xs) fl) d r fs st Q) := R_call 73 xs fl rfl
theorem rcall74 {O : Oracle} {st : St} {Q : Ex → St → Prop} {fs : List Fr} {d : Option Nat} {b i : Nat} {ap : List X} {r : List IOp} (xs : List X) (fl : Bool) : RunO O code.md (⟨d, .call 74 xs fl, none, b, i, ap⟩ :: r) fs st Q = (quietOk st (.call 74 xs fl) ap = true ∧ RunQ O code.md (callVal O st b 74 (evalXs st xs) fl) d r fs st Q) := R_call 74 xs fl rfl
theorem rcall75 {O : Oracle} {st : St} {Q : Ex → St → Prop} {fs : List Fr} {d : Option Nat} {b i : Nat} {ap : List X} {r : List IOp} (xs : List X) (fl : Bool) : RunO O code.md (⟨d, .call 75 xs fl, none, b, i, ap⟩ :: r) fs st Q = (quietOk st (.call 75 xs fl) ap = true ∧ RunQ O code.md (callVal O st b 75 (evalXs st xs) fl) d r fs st Q) := R_call 75 xs fl rfl
end Go.Ae.R4
