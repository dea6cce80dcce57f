/- The code of the functions, for the evaluator. -/
import Derived.Test.YtgndkjddglehgaaAeL6
import Derived.Test.YtgndkjddglehgaaGAN
namespace Go.Ae.GA

def md : Nat → Mode
  | 10 => .ref
  | 36 => .ref
  | 37 => .ref
  | 38 => .ref
  | 39 => .ref
  | _ => .val
/-- loop.example/g00849/laws.FnExactAddEntry -/
def F4 : F := ⟨2, 109, [.t 4],
 .seq (.reg [⟨(some 2), .box (.t 0), none, 0, 0, []⟩,
   ⟨(some 3), .box (.t 1), none, 256, 1, []⟩,
   ⟨(some 4), .mv (.k (.bool false)), none, 512, 2, []⟩])
 (.seq (.reg [⟨(some 5), .mv (.k (.int .i64 1048576)), none, 65536, 0, []⟩])
 (.seq (.reg [⟨(some 16), .load 12 true (.t 2), none, 131072, 0, []⟩,
   ⟨(some 17), .mv (.t 5), none, 131328, 1, []⟩,
   ⟨(some 18), .call 5 [(.t 16), (.t 17)] true, none, 131584, 2, []⟩,
   ⟨(some 5), .mv (.t 18), none, 131840, 3, []⟩])
 (.seq (.seq (.reg [⟨(some 19), .mv (.t 5), none, 196608, 0, []⟩,
   ⟨(some 20), .bin .lss (.t 19) (.k (.int .i64 0)), none, 196864, 1, []⟩])
 (.cond (.t 20)
  (.seq (.reg [⟨(some 4), .mv (.k (.bool true)), none, 262144, 0, []⟩])
  (.ret))
  (.skip)))
 (.seq (.reg [⟨(some 21), .load 10 true (.t 3), none, 327680, 0, []⟩,
   ⟨(some 22), .mv (.t 5), none, 327936, 1, []⟩,
   ⟨(some 23), .call 12 [(.t 21), (.t 22)] true, none, 328192, 2, []⟩,
   ⟨(some 5), .mv (.t 23), none, 328448, 3, []⟩])
 (.seq (.seq (.reg [⟨(some 24), .mv (.t 5), none, 393216, 0, []⟩,
   ⟨(some 25), .bin .lss (.t 24) (.k (.int .i64 0)), none, 393472, 1, []⟩])
 (.cond (.t 25)
  (.seq (.reg [⟨(some 4), .mv (.k (.bool true)), none, 458752, 0, []⟩])
  (.ret))
  (.skip)))
 (.seq (.reg [⟨(some 27), .load 12 true (.t 2), none, 524288, 0, []⟩,
   ⟨(some 28), .call 7 [(.t 27)] false, none, 524544, 1, [(.t 3)]⟩,
   ⟨(some 29), .load 10 true (.t 3), none, 524800, 2, []⟩,
   ⟨(some 30), .call 14 [(.t 29)] true, none, 525056, 3, []⟩,
   ⟨(some 31), .call 13 [(.t 28), (.t 30)] false, none, 525312, 4, []⟩,
   ⟨(some 26), .mv (.t 31), none, 525568, 5, []⟩,
   ⟨(some 32), .ext (.t 26) 0, none, 525824, 6, []⟩,
   ⟨(some 33), .ext (.t 26) 1, none, 526080, 7, []⟩,
   ⟨(some 6), .alloc [(.int .i64 0), (.int .i64 0), (.int .i64 0), (.int .i64 0), (.int .i64 0), (.int .i64 0), (.nil true 5), (.nil true 4), (.nil true 10), (.int .i64 0), (.int .i64 0), (.nil true 6)], none, 526336, 8, []⟩,
   ⟨none, .store 12 (.t 6) (.t 32), none, 526592, 9, []⟩,
   ⟨(some 7), .mv (.t 33), none, 526848, 10, []⟩])
 (.seq (.reg [⟨(some 34), .load 12 true (.t 2), none, 589824, 0, []⟩,
   ⟨(some 35), .call 7 [(.t 34)] false, none, 590080, 1, []⟩,
   ⟨(some 8), .alloc [(.int .i64 0), (.int .i64 0), (.int .i64 0), (.int .i64 0), (.int .i64 0), (.int .i64 0), (.nil true 5), (.nil true 4), (.nil true 10), (.int .i64 0), (.int .i64 0), (.nil true 6)], none, 590336, 2, []⟩,
   ⟨none, .store 12 (.t 8) (.t 35), none, 590592, 3, []⟩])
 (.seq (.reg [⟨(some 37), .load 12 true (.t 8), none, 655360, 0, []⟩,
   ⟨(some 38), .load 10 true (.t 3), none, 655616, 1, []⟩,
   ⟨(some 39), .call 14 [(.t 38)] true, none, 655872, 2, []⟩,
   ⟨(some 40), .call 15 [(.t 37), (.t 39)] false, none, 656128, 3, []⟩,
   ⟨(some 36), .mv (.t 40), none, 656384, 4, []⟩,
   ⟨(some 41), .ext (.t 36) 0, none, 656640, 5, []⟩,
   ⟨(some 42), .ext (.t 36) 1, none, 656896, 6, []⟩,
   ⟨(some 9), .alloc [(.int .i64 0), (.int .i64 0), (.int .i64 0), (.int .i64 0), (.int .i64 0), (.int .i64 0), (.nil true 5), (.nil true 4), (.nil true 10), (.int .i64 0), (.int .i64 0), (.nil true 6)], none, 657152, 7, []⟩,
   ⟨none, .store 12 (.t 9) (.t 41), none, 657408, 8, []⟩,
   ⟨(some 10), .mv (.t 42), none, 657664, 9, []⟩])
 (.seq (.seq (.reg [⟨(some 43), .load 12 true (.t 9), none, 720896, 0, []⟩,
   ⟨(some 44), .load 12 true (.t 6), none, 721152, 1, []⟩,
   ⟨(some 45), .call 9 [(.t 43), (.t 44)] true, none, 721408, 2, []⟩,
   ⟨(some 46), .not (.t 45), none, 721664, 3, []⟩,
   ⟨(some 47), .mv (.t 46), none, 721920, 4, []⟩,
   ⟨(some 48), .mv (.t 10), (some (some 47, false)), 722176, 5, []⟩,
   ⟨(some 49), .mv (.t 7), (some (some 47, false)), 722432, 6, []⟩,
   ⟨(some 50), .bin .neq (.t 48) (.t 49), (some (some 47, false)), 722688, 7, []⟩,
   ⟨(some 51), .pick (.t 47) (.k (.bool true)) (.t 50), none, 722944, 8, []⟩])
 (.cond (.t 51)
  (.seq (.reg [⟨(some 4), .mv (.k (.bool false)), none, 786432, 0, []⟩])
  (.ret))
  (.skip)))
 (.seq (.seq (.reg [⟨(some 52), .load 12 true (.t 8), none, 851968, 0, []⟩,
   ⟨(some 53), .load 12 true (.t 2), none, 852224, 1, []⟩,
   ⟨(some 54), .call 7 [(.t 53)] false, none, 852480, 2, []⟩,
   ⟨(some 55), .call 9 [(.t 52), (.t 54)] true, none, 852736, 3, []⟩,
   ⟨(some 56), .not (.t 55), none, 852992, 4, []⟩])
 (.cond (.t 56)
  (.seq (.reg [⟨(some 4), .mv (.k (.bool false)), none, 917504, 0, []⟩])
  (.ret))
  (.skip)))
 (.seq (.reg [⟨(some 11), .mv (.k (.int .i64 1)), none, 983040, 0, []⟩])
 (.seq (.reg [⟨(some 57), .load 12 true (.t 8), none, 1048576, 0, []⟩,
   ⟨(some 58), .mv (.t 11), none, 1048832, 1, []⟩,
   ⟨(some 59), .call 10 [(.t 57), (.t 58)] true, none, 1049088, 2, []⟩,
   ⟨(some 11), .mv (.t 59), none, 1049344, 3, []⟩])
 (.seq (.seq (.reg [⟨(some 60), .mv (.t 11), none, 1114112, 0, []⟩,
   ⟨(some 61), .bin .lss (.t 60) (.k (.int .i64 0)), none, 1114368, 1, []⟩,
   ⟨(some 62), .mv (.t 61), none, 1114624, 2, []⟩,
   ⟨(some 63), .load 12 true (.t 9), (some (some 62, false)), 1114880, 3, []⟩,
   ⟨(some 64), .load 12 true (.t 6), (some (some 62, false)), 1115136, 4, []⟩,
   ⟨(some 65), .call 9 [(.t 63), (.t 64)] true, (some (some 62, false)), 1115392, 5, []⟩,
   ⟨(some 66), .not (.t 65), (some (some 62, false)), 1115648, 6, []⟩,
   ⟨(some 67), .pick (.t 62) (.k (.bool true)) (.t 66), none, 1115904, 7, []⟩,
   ⟨(some 68), .mv (.t 67), none, 1116160, 8, []⟩,
   ⟨(some 69), .mv (.t 10), (some (some 68, false)), 1116416, 9, []⟩,
   ⟨(some 70), .mv (.t 7), (some (some 68, false)), 1116672, 10, []⟩,
   ⟨(some 71), .bin .neq (.t 69) (.t 70), (some (some 68, false)), 1116928, 11, []⟩,
   ⟨(some 72), .pick (.t 68) (.k (.bool true)) (.t 71), none, 1117184, 12, []⟩])
 (.cond (.t 72)
  (.seq (.reg [⟨(some 4), .mv (.k (.bool false)), none, 1179648, 0, []⟩])
  (.ret))
  (.skip)))
 (.seq (.reg [⟨(some 12), .mv (.k (.int .i64 1)), none, 1245184, 0, []⟩])
 (.seq (.reg [⟨(some 73), .load 12 true (.t 9), none, 1310720, 0, []⟩,
   ⟨(some 74), .mv (.t 12), none, 1310976, 1, []⟩,
   ⟨(some 75), .call 10 [(.t 73), (.t 74)] true, none, 1311232, 2, []⟩,
   ⟨(some 12), .mv (.t 75), none, 1311488, 3, []⟩])
 (.seq (.reg [⟨(some 13), .mv (.k (.int .i64 1)), none, 1376256, 0, []⟩])
 (.seq (.reg [⟨(some 76), .load 12 true (.t 9), none, 1441792, 0, []⟩,
   ⟨(some 77), .mv (.t 13), none, 1442048, 1, []⟩,
   ⟨(some 78), .call 11 [(.t 76), (.t 77)] true, none, 1442304, 2, []⟩,
   ⟨(some 13), .mv (.t 78), none, 1442560, 3, []⟩])
 (.seq (.seq (.reg [⟨(some 79), .mv (.t 13), none, 1507328, 0, []⟩,
   ⟨(some 80), .bin .lss (.t 79) (.k (.int .i64 0)), none, 1507584, 1, []⟩])
 (.cond (.t 80)
  (.seq (.reg [⟨(some 4), .mv (.k (.bool false)), none, 1572864, 0, []⟩])
  (.ret))
  (.skip)))
 (.seq (.seq (.reg [⟨(some 81), .mv (.t 13), none, 1638400, 0, []⟩,
   ⟨(some 82), .mv (.t 12), none, 1638656, 1, []⟩,
   ⟨(some 83), .bin .neq (.t 81) (.t 82), none, 1638912, 2, []⟩])
 (.cond (.t 83)
  (.seq (.reg [⟨(some 4), .mv (.k (.bool false)), none, 1703936, 0, []⟩])
  (.ret))
  (.skip)))
 (.seq (.reg [⟨(some 85), .load 12 true (.t 2), none, 1769472, 0, []⟩,
   ⟨(some 86), .call 7 [(.t 85)] false, none, 1769728, 1, [(.t 3)]⟩,
   ⟨(some 87), .load 10 true (.t 3), none, 1769984, 2, []⟩,
   ⟨(some 88), .call 14 [(.t 87)] true, none, 1770240, 3, []⟩,
   ⟨(some 89), .call 15 [(.t 86), (.t 88)] false, none, 1770496, 4, []⟩,
   ⟨(some 84), .mv (.t 89), none, 1770752, 5, []⟩,
   ⟨(some 90), .ext (.t 84) 0, none, 1771008, 6, []⟩,
   ⟨(some 91), .ext (.t 84) 1, none, 1771264, 7, []⟩,
   ⟨(some 14), .alloc [(.int .i64 0), (.int .i64 0), (.int .i64 0), (.int .i64 0), (.int .i64 0), (.int .i64 0), (.nil true 5), (.nil true 4), (.nil true 10), (.int .i64 0), (.int .i64 0), (.nil true 6)], none, 1771520, 8, []⟩,
   ⟨none, .store 12 (.t 14) (.t 90), none, 1771776, 9, []⟩,
   ⟨(some 15), .mv (.t 91), none, 1772032, 10, []⟩])
 (.seq (.seq (.reg [⟨(some 92), .load 12 true (.t 14), none, 1835008, 0, []⟩,
   ⟨(some 93), .load 12 true (.t 6), none, 1835264, 1, []⟩,
   ⟨(some 94), .call 9 [(.t 92), (.t 93)] true, none, 1835520, 2, []⟩,
   ⟨(some 95), .not (.t 94), none, 1835776, 3, []⟩,
   ⟨(some 96), .mv (.t 95), none, 1836032, 4, []⟩,
   ⟨(some 97), .mv (.t 15), (some (some 96, false)), 1836288, 5, []⟩,
   ⟨(some 98), .mv (.t 7), (some (some 96, false)), 1836544, 6, []⟩,
   ⟨(some 99), .bin .neq (.t 97) (.t 98), (some (some 96, false)), 1836800, 7, []⟩,
   ⟨(some 100), .pick (.t 96) (.k (.bool true)) (.t 99), none, 1837056, 8, []⟩])
 (.cond (.t 100)
  (.seq (.reg [⟨(some 4), .mv (.k (.bool false)), none, 1900544, 0, []⟩])
  (.ret))
  (.skip)))
 (.seq (.reg [⟨(some 13), .mv (.k (.int .i64 1)), none, 1966080, 0, []⟩])
 (.seq (.reg [⟨(some 101), .load 12 true (.t 9), none, 2031616, 0, []⟩,
   ⟨(some 102), .mv (.t 13), none, 2031872, 1, []⟩,
   ⟨(some 103), .call 11 [(.t 101), (.t 102)] true, none, 2032128, 2, []⟩,
   ⟨(some 13), .mv (.t 103), none, 2032384, 3, []⟩])
 (.seq (.seq (.reg [⟨(some 104), .mv (.t 13), none, 2097152, 0, []⟩,
   ⟨(some 105), .bin .lss (.t 104) (.k (.int .i64 0)), none, 2097408, 1, []⟩])
 (.cond (.t 105)
  (.seq (.reg [⟨(some 4), .mv (.k (.bool false)), none, 2162688, 0, []⟩])
  (.ret))
  (.skip)))
 (.seq (.seq (.reg [⟨(some 106), .mv (.t 13), none, 2228224, 0, []⟩,
   ⟨(some 107), .mv (.t 12), none, 2228480, 1, []⟩,
   ⟨(some 108), .bin .neq (.t 106) (.t 107), none, 2228736, 2, []⟩])
 (.cond (.t 108)
  (.seq (.reg [⟨(some 4), .mv (.k (.bool false)), none, 2293760, 0, []⟩])
  (.ret))
  (.skip)))
 (.seq (.reg [⟨(some 4), .mv (.k (.bool true)), none, 2359296, 0, []⟩])
 (.ret)))))))))))))))))))))))))))⟩
/-- loop.example/g00849/laws.szPgState -/
def F5 : F := ⟨2, 30, [.t 4],
 .seq (.reg [⟨(some 2), .box (.t 0), none, 0, 0, []⟩,
   ⟨(some 4), .mv (.k (.int .i64 0)), none, 256, 1, []⟩])
 (.seq (.reg [⟨(some 5), .faddr 6 (.t 2), none, 65536, 0, []⟩,
   ⟨(some 6), .load 1 false (.t 5), none, 65792, 1, []⟩,
   ⟨(some 7), .mv (.t 1), none, 66048, 2, []⟩,
   ⟨(some 8), .call 16 [(.t 6), (.t 7)] true, none, 66304, 3, []⟩,
   ⟨(some 1), .mv (.t 8), none, 66560, 4, []⟩])
 (.seq (.seq (.reg [⟨(some 9), .mv (.t 1), none, 131072, 0, []⟩,
   ⟨(some 10), .bin .lss (.t 9) (.k (.int .i64 0)), none, 131328, 1, []⟩])
 (.cond (.t 10)
  (.seq (.reg [⟨(some 4), .mv (.k (.int .i64 (-1))), none, 196608, 0, []⟩])
  (.ret))
  (.skip)))
 (.seq (.reg [⟨(some 11), .faddr 7 (.t 2), none, 262144, 0, []⟩,
   ⟨(some 12), .load 1 false (.t 11), none, 262400, 1, []⟩,
   ⟨(some 13), .mv (.t 1), none, 262656, 2, []⟩,
   ⟨(some 14), .call 17 [(.t 12), (.t 13)] true, none, 262912, 3, []⟩,
   ⟨(some 1), .mv (.t 14), none, 263168, 4, []⟩])
 (.seq (.seq (.reg [⟨(some 15), .mv (.t 1), none, 327680, 0, []⟩,
   ⟨(some 16), .bin .lss (.t 15) (.k (.int .i64 0)), none, 327936, 1, []⟩])
 (.cond (.t 16)
  (.seq (.reg [⟨(some 4), .mv (.k (.int .i64 (-1))), none, 393216, 0, []⟩])
  (.ret))
  (.skip)))
 (.seq (.reg [⟨(some 17), .faddr 8 (.t 2), none, 458752, 0, []⟩,
   ⟨(some 18), .load 1 false (.t 17), none, 459008, 1, []⟩,
   ⟨(some 19), .mv (.t 1), none, 459264, 2, []⟩,
   ⟨(some 20), .call 18 [(.t 18), (.t 19)] true, none, 459520, 3, []⟩,
   ⟨(some 1), .mv (.t 20), none, 459776, 4, []⟩])
 (.seq (.seq (.reg [⟨(some 21), .mv (.t 1), none, 524288, 0, []⟩,
   ⟨(some 22), .bin .lss (.t 21) (.k (.int .i64 0)), none, 524544, 1, []⟩])
 (.cond (.t 22)
  (.seq (.reg [⟨(some 4), .mv (.k (.int .i64 (-1))), none, 589824, 0, []⟩])
  (.ret))
  (.skip)))
 (.seq (.reg [⟨(some 23), .faddr 11 (.t 2), none, 655360, 0, []⟩,
   ⟨(some 24), .load 1 false (.t 23), none, 655616, 1, []⟩,
   ⟨(some 25), .mv (.t 1), none, 655872, 2, []⟩,
   ⟨(some 26), .call 19 [(.t 24), (.t 25)] true, none, 656128, 3, []⟩,
   ⟨(some 1), .mv (.t 26), none, 656384, 4, []⟩])
 (.seq (.seq (.reg [⟨(some 27), .mv (.t 1), none, 720896, 0, []⟩,
   ⟨(some 28), .bin .lss (.t 27) (.k (.int .i64 0)), none, 721152, 1, []⟩])
 (.cond (.t 28)
  (.seq (.reg [⟨(some 4), .mv (.k (.int .i64 (-1))), none, 786432, 0, []⟩])
  (.ret))
  (.skip)))
 (.seq (.reg [⟨(some 29), .mv (.t 1), none, 851968, 0, []⟩,
   ⟨(some 4), .mv (.t 29), none, 852224, 1, []⟩])
 (.ret))))))))))⟩
/-- loop.example/g00849/laws.toPgState -/
def F7 : F := ⟨1, 39, [.cell 2 12 true],
 .seq (.reg [⟨(some 1), .box (.t 0), none, 0, 0, []⟩,
   ⟨(some 2), .alloc [(.int .i64 0), (.int .i64 0), (.int .i64 0), (.int .i64 0), (.int .i64 0), (.int .i64 0), (.nil true 5), (.nil true 4), (.nil true 10), (.int .i64 0), (.int .i64 0), (.nil true 6)], none, 256, 1, []⟩])
 (.seq (.reg [⟨(some 3), .alloc [(.int .i64 0), (.int .i64 0), (.int .i64 0), (.int .i64 0), (.int .i64 0), (.int .i64 0), (.nil true 5), (.nil true 4), (.nil true 10), (.int .i64 0), (.int .i64 0), (.nil true 6)], none, 65536, 0, []⟩])
 (.seq (.reg [⟨(some 4), .faddr 0 (.t 1), none, 131072, 0, []⟩,
   ⟨(some 5), .load 2 true (.t 4), none, 131328, 1, []⟩,
   ⟨(some 6), .call 22 [(.t 5)] true, none, 131584, 2, []⟩,
   ⟨(some 7), .faddr 0 (.t 3), none, 131840, 3, []⟩,
   ⟨none, .store 2 (.t 7) (.t 6), none, 132096, 4, []⟩])
 (.seq (.reg [⟨(some 8), .faddr 2 (.t 1), none, 196608, 0, []⟩,
   ⟨(some 9), .load 1 false (.t 8), none, 196864, 1, []⟩,
   ⟨(some 10), .faddr 2 (.t 3), none, 197120, 2, []⟩,
   ⟨none, .store 1 (.t 10) (.t 9), none, 197376, 3, []⟩])
 (.seq (.reg [⟨(some 11), .faddr 3 (.t 1), none, 262144, 0, []⟩,
   ⟨(some 12), .load 1 false (.t 11), none, 262400, 1, []⟩,
   ⟨(some 13), .faddr 3 (.t 3), none, 262656, 2, []⟩,
   ⟨none, .store 1 (.t 13) (.t 12), none, 262912, 3, []⟩])
 (.seq (.reg [⟨(some 14), .faddr 4 (.t 1), none, 327680, 0, []⟩,
   ⟨(some 15), .load 2 true (.t 14), none, 327936, 1, []⟩,
   ⟨(some 16), .call 23 [(.t 15)] true, none, 328192, 2, []⟩,
   ⟨(some 17), .faddr 4 (.t 3), none, 328448, 3, []⟩,
   ⟨none, .store 2 (.t 17) (.t 16), none, 328704, 4, []⟩])
 (.seq (.reg [⟨(some 18), .faddr 6 (.t 1), none, 393216, 0, []⟩,
   ⟨(some 19), .load 1 false (.t 18), none, 393472, 1, []⟩,
   ⟨(some 20), .call 24 [(.t 19)] false, none, 393728, 2, []⟩,
   ⟨(some 21), .faddr 6 (.t 3), none, 393984, 3, []⟩,
   ⟨none, .store 1 (.t 21) (.t 20), none, 394240, 4, []⟩])
 (.seq (.reg [⟨(some 22), .faddr 7 (.t 1), none, 458752, 0, []⟩,
   ⟨(some 23), .load 1 false (.t 22), none, 459008, 1, []⟩,
   ⟨(some 24), .call 25 [(.t 23)] false, none, 459264, 2, []⟩,
   ⟨(some 25), .faddr 7 (.t 3), none, 459520, 3, []⟩,
   ⟨none, .store 1 (.t 25) (.t 24), none, 459776, 4, []⟩])
 (.seq (.reg [⟨(some 26), .faddr 8 (.t 1), none, 524288, 0, []⟩,
   ⟨(some 27), .load 1 false (.t 26), none, 524544, 1, []⟩,
   ⟨(some 28), .call 26 [(.t 27)] false, none, 524800, 2, []⟩,
   ⟨(some 29), .faddr 8 (.t 3), none, 525056, 3, []⟩,
   ⟨none, .store 1 (.t 29) (.t 28), none, 525312, 4, []⟩])
 (.seq (.reg [⟨(some 30), .faddr 9 (.t 1), none, 589824, 0, []⟩,
   ⟨(some 31), .load 2 true (.t 30), none, 590080, 1, []⟩,
   ⟨(some 32), .call 23 [(.t 31)] true, none, 590336, 2, []⟩,
   ⟨(some 33), .faddr 9 (.t 3), none, 590592, 3, []⟩,
   ⟨none, .store 2 (.t 33) (.t 32), none, 590848, 4, []⟩])
 (.seq (.reg [⟨(some 34), .faddr 11 (.t 1), none, 655360, 0, []⟩,
   ⟨(some 35), .load 1 false (.t 34), none, 655616, 1, []⟩,
   ⟨(some 36), .call 27 [(.t 35)] false, none, 655872, 2, []⟩,
   ⟨(some 37), .faddr 11 (.t 3), none, 656128, 3, []⟩,
   ⟨none, .store 1 (.t 37) (.t 36), none, 656384, 4, []⟩])
 (.seq (.reg [⟨(some 38), .load 12 true (.t 3), none, 720896, 0, []⟩,
   ⟨none, .store 12 (.t 2) (.t 38), none, 721152, 1, []⟩])
 (.ret))))))))))))⟩
/-- loop.example/g00849/laws.eqPgState -/
def F9 : F := ⟨2, 57, [.t 4],
 .seq (.reg [⟨(some 2), .box (.t 0), none, 0, 0, []⟩,
   ⟨(some 3), .box (.t 1), none, 256, 1, []⟩,
   ⟨(some 4), .mv (.k (.bool false)), none, 512, 2, []⟩])
 (.seq (.seq (.reg [⟨(some 5), .faddr 0 (.t 2), none, 65536, 0, []⟩,
   ⟨(some 6), .load 2 true (.t 5), none, 65792, 1, []⟩,
   ⟨(some 7), .faddr 0 (.t 3), none, 66048, 2, []⟩,
   ⟨(some 8), .load 2 true (.t 7), none, 66304, 3, []⟩,
   ⟨(some 9), .call 30 [(.t 6), (.t 8)] true, none, 66560, 4, []⟩,
   ⟨(some 10), .not (.t 9), none, 66816, 5, []⟩])
 (.cond (.t 10)
  (.seq (.reg [⟨(some 4), .mv (.k (.bool false)), none, 131072, 0, []⟩])
  (.ret))
  (.skip)))
 (.seq (.seq (.reg [⟨(some 11), .faddr 2 (.t 2), none, 196608, 0, []⟩,
   ⟨(some 12), .load 1 false (.t 11), none, 196864, 1, []⟩,
   ⟨(some 13), .faddr 2 (.t 3), none, 197120, 2, []⟩,
   ⟨(some 14), .load 1 false (.t 13), none, 197376, 3, []⟩,
   ⟨(some 15), .bin .neq (.t 12) (.t 14), none, 197632, 4, []⟩])
 (.cond (.t 15)
  (.seq (.reg [⟨(some 4), .mv (.k (.bool false)), none, 262144, 0, []⟩])
  (.ret))
  (.skip)))
 (.seq (.seq (.reg [⟨(some 16), .faddr 3 (.t 2), none, 327680, 0, []⟩,
   ⟨(some 17), .load 1 false (.t 16), none, 327936, 1, []⟩,
   ⟨(some 18), .faddr 3 (.t 3), none, 328192, 2, []⟩,
   ⟨(some 19), .load 1 false (.t 18), none, 328448, 3, []⟩,
   ⟨(some 20), .bin .neq (.t 17) (.t 19), none, 328704, 4, []⟩])
 (.cond (.t 20)
  (.seq (.reg [⟨(some 4), .mv (.k (.bool false)), none, 393216, 0, []⟩])
  (.ret))
  (.skip)))
 (.seq (.seq (.reg [⟨(some 21), .faddr 4 (.t 2), none, 458752, 0, []⟩,
   ⟨(some 22), .load 2 true (.t 21), none, 459008, 1, []⟩,
   ⟨(some 23), .faddr 4 (.t 3), none, 459264, 2, []⟩,
   ⟨(some 24), .load 2 true (.t 23), none, 459520, 3, []⟩,
   ⟨(some 25), .call 31 [(.t 22), (.t 24)] true, none, 459776, 4, []⟩,
   ⟨(some 26), .not (.t 25), none, 460032, 5, []⟩])
 (.cond (.t 26)
  (.seq (.reg [⟨(some 4), .mv (.k (.bool false)), none, 524288, 0, []⟩])
  (.ret))
  (.skip)))
 (.seq (.seq (.reg [⟨(some 27), .faddr 6 (.t 2), none, 589824, 0, []⟩,
   ⟨(some 28), .load 1 false (.t 27), none, 590080, 1, []⟩,
   ⟨(some 29), .faddr 6 (.t 3), none, 590336, 2, []⟩,
   ⟨(some 30), .load 1 false (.t 29), none, 590592, 3, []⟩,
   ⟨(some 31), .call 32 [(.t 28), (.t 30)] true, none, 590848, 4, []⟩,
   ⟨(some 32), .not (.t 31), none, 591104, 5, []⟩])
 (.cond (.t 32)
  (.seq (.reg [⟨(some 4), .mv (.k (.bool false)), none, 655360, 0, []⟩])
  (.ret))
  (.skip)))
 (.seq (.seq (.reg [⟨(some 33), .faddr 7 (.t 2), none, 720896, 0, []⟩,
   ⟨(some 34), .load 1 false (.t 33), none, 721152, 1, []⟩,
   ⟨(some 35), .faddr 7 (.t 3), none, 721408, 2, []⟩,
   ⟨(some 36), .load 1 false (.t 35), none, 721664, 3, []⟩,
   ⟨(some 37), .call 33 [(.t 34), (.t 36)] true, none, 721920, 4, []⟩,
   ⟨(some 38), .not (.t 37), none, 722176, 5, []⟩])
 (.cond (.t 38)
  (.seq (.reg [⟨(some 4), .mv (.k (.bool false)), none, 786432, 0, []⟩])
  (.ret))
  (.skip)))
 (.seq (.seq (.reg [⟨(some 39), .faddr 8 (.t 2), none, 851968, 0, []⟩,
   ⟨(some 40), .load 1 false (.t 39), none, 852224, 1, []⟩,
   ⟨(some 41), .faddr 8 (.t 3), none, 852480, 2, []⟩,
   ⟨(some 42), .load 1 false (.t 41), none, 852736, 3, []⟩,
   ⟨(some 43), .call 34 [(.t 40), (.t 42)] true, none, 852992, 4, []⟩,
   ⟨(some 44), .not (.t 43), none, 853248, 5, []⟩])
 (.cond (.t 44)
  (.seq (.reg [⟨(some 4), .mv (.k (.bool false)), none, 917504, 0, []⟩])
  (.ret))
  (.skip)))
 (.seq (.seq (.reg [⟨(some 45), .faddr 9 (.t 2), none, 983040, 0, []⟩,
   ⟨(some 46), .load 2 true (.t 45), none, 983296, 1, []⟩,
   ⟨(some 47), .faddr 9 (.t 3), none, 983552, 2, []⟩,
   ⟨(some 48), .load 2 true (.t 47), none, 983808, 3, []⟩,
   ⟨(some 49), .call 31 [(.t 46), (.t 48)] true, none, 984064, 4, []⟩,
   ⟨(some 50), .not (.t 49), none, 984320, 5, []⟩])
 (.cond (.t 50)
  (.seq (.reg [⟨(some 4), .mv (.k (.bool false)), none, 1048576, 0, []⟩])
  (.ret))
  (.skip)))
 (.seq (.seq (.reg [⟨(some 51), .faddr 11 (.t 2), none, 1114112, 0, []⟩,
   ⟨(some 52), .load 1 false (.t 51), none, 1114368, 1, []⟩,
   ⟨(some 53), .faddr 11 (.t 3), none, 1114624, 2, []⟩,
   ⟨(some 54), .load 1 false (.t 53), none, 1114880, 3, []⟩,
   ⟨(some 55), .call 35 [(.t 52), (.t 54)] true, none, 1115136, 4, []⟩,
   ⟨(some 56), .not (.t 55), none, 1115392, 5, []⟩])
 (.cond (.t 56)
  (.seq (.reg [⟨(some 4), .mv (.k (.bool false)), none, 1179648, 0, []⟩])
  (.ret))
  (.skip)))
 (.seq (.reg [⟨(some 4), .mv (.k (.bool true)), none, 1245184, 0, []⟩])
 (.ret)))))))))))⟩
/-- loop.example/g00849/laws.markPgState -/
def F10 : F := ⟨2, 22, [.t 4],
 .seq (.reg [⟨(some 2), .box (.t 0), none, 0, 0, []⟩,
   ⟨(some 4), .mv (.k (.int .i64 0)), none, 256, 1, []⟩])
 (.seq (.reg [⟨(some 5), .faddr 6 (.t 2), none, 65536, 0, []⟩,
   ⟨(some 6), .load 1 false (.t 5), none, 65792, 1, []⟩,
   ⟨(some 7), .mv (.t 1), none, 66048, 2, []⟩,
   ⟨(some 8), .call 36 [(.t 6), (.t 7)] true, none, 66304, 3, []⟩,
   ⟨(some 1), .mv (.t 8), none, 66560, 4, []⟩])
 (.seq (.reg [⟨(some 9), .faddr 7 (.t 2), none, 131072, 0, []⟩,
   ⟨(some 10), .load 1 false (.t 9), none, 131328, 1, []⟩,
   ⟨(some 11), .mv (.t 1), none, 131584, 2, []⟩,
   ⟨(some 12), .call 37 [(.t 10), (.t 11)] true, none, 131840, 3, []⟩,
   ⟨(some 1), .mv (.t 12), none, 132096, 4, []⟩])
 (.seq (.reg [⟨(some 13), .faddr 8 (.t 2), none, 196608, 0, []⟩,
   ⟨(some 14), .load 1 false (.t 13), none, 196864, 1, []⟩,
   ⟨(some 15), .mv (.t 1), none, 197120, 2, []⟩,
   ⟨(some 16), .call 38 [(.t 14), (.t 15)] true, none, 197376, 3, []⟩,
   ⟨(some 1), .mv (.t 16), none, 197632, 4, []⟩])
 (.seq (.reg [⟨(some 17), .faddr 11 (.t 2), none, 262144, 0, []⟩,
   ⟨(some 18), .load 1 false (.t 17), none, 262400, 1, []⟩,
   ⟨(some 19), .mv (.t 1), none, 262656, 2, []⟩,
   ⟨(some 20), .call 39 [(.t 18), (.t 19)] true, none, 262912, 3, []⟩,
   ⟨(some 1), .mv (.t 20), none, 263168, 4, []⟩])
 (.seq (.reg [⟨(some 21), .mv (.t 1), none, 327680, 0, []⟩,
   ⟨(some 4), .mv (.t 21), none, 327936, 1, []⟩])
 (.ret))))))⟩
/-- loop.example/g00849/laws.heldPgState -/
def F11 : F := ⟨2, 30, [.t 4],
 .seq (.reg [⟨(some 2), .box (.t 0), none, 0, 0, []⟩,
   ⟨(some 4), .mv (.k (.int .i64 0)), none, 256, 1, []⟩])
 (.seq (.reg [⟨(some 5), .faddr 6 (.t 2), none, 65536, 0, []⟩,
   ⟨(some 6), .load 1 false (.t 5), none, 65792, 1, []⟩,
   ⟨(some 7), .mv (.t 1), none, 66048, 2, []⟩,
   ⟨(some 8), .call 40 [(.t 6), (.t 7)] true, none, 66304, 3, []⟩,
   ⟨(some 1), .mv (.t 8), none, 66560, 4, []⟩])
 (.seq (.seq (.reg [⟨(some 9), .mv (.t 1), none, 131072, 0, []⟩,
   ⟨(some 10), .bin .lss (.t 9) (.k (.int .i64 0)), none, 131328, 1, []⟩])
 (.cond (.t 10)
  (.seq (.reg [⟨(some 4), .mv (.k (.int .i64 (-1))), none, 196608, 0, []⟩])
  (.ret))
  (.skip)))
 (.seq (.reg [⟨(some 11), .faddr 7 (.t 2), none, 262144, 0, []⟩,
   ⟨(some 12), .load 1 false (.t 11), none, 262400, 1, []⟩,
   ⟨(some 13), .mv (.t 1), none, 262656, 2, []⟩,
   ⟨(some 14), .call 41 [(.t 12), (.t 13)] true, none, 262912, 3, []⟩,
   ⟨(some 1), .mv (.t 14), none, 263168, 4, []⟩])
 (.seq (.seq (.reg [⟨(some 15), .mv (.t 1), none, 327680, 0, []⟩,
   ⟨(some 16), .bin .lss (.t 15) (.k (.int .i64 0)), none, 327936, 1, []⟩])
 (.cond (.t 16)
  (.seq (.reg [⟨(some 4), .mv (.k (.int .i64 (-1))), none, 393216, 0, []⟩])
  (.ret))
  (.skip)))
 (.seq (.reg [⟨(some 17), .faddr 8 (.t 2), none, 458752, 0, []⟩,
   ⟨(some 18), .load 1 false (.t 17), none, 459008, 1, []⟩,
   ⟨(some 19), .mv (.t 1), none, 459264, 2, []⟩,
   ⟨(some 20), .call 42 [(.t 18), (.t 19)] true, none, 459520, 3, []⟩,
   ⟨(some 1), .mv (.t 20), none, 459776, 4, []⟩])
 (.seq (.seq (.reg [⟨(some 21), .mv (.t 1), none, 524288, 0, []⟩,
   ⟨(some 22), .bin .lss (.t 21) (.k (.int .i64 0)), none, 524544, 1, []⟩])
 (.cond (.t 22)
  (.seq (.reg [⟨(some 4), .mv (.k (.int .i64 (-1))), none, 589824, 0, []⟩])
  (.ret))
  (.skip)))
 (.seq (.reg [⟨(some 23), .faddr 11 (.t 2), none, 655360, 0, []⟩,
   ⟨(some 24), .load 1 false (.t 23), none, 655616, 1, []⟩,
   ⟨(some 25), .mv (.t 1), none, 655872, 2, []⟩,
   ⟨(some 26), .call 43 [(.t 24), (.t 25)] true, none, 656128, 3, []⟩,
   ⟨(some 1), .mv (.t 26), none, 656384, 4, []⟩])
 (.seq (.seq (.reg [⟨(some 27), .mv (.t 1), none, 720896, 0, []⟩,
   ⟨(some 28), .bin .lss (.t 27) (.k (.int .i64 0)), none, 721152, 1, []⟩])
 (.cond (.t 28)
  (.seq (.reg [⟨(some 4), .mv (.k (.int .i64 (-1))), none, 786432, 0, []⟩])
  (.ret))
  (.skip)))
 (.seq (.reg [⟨(some 29), .mv (.t 1), none, 851968, 0, []⟩,
   ⟨(some 4), .mv (.t 29), none, 852224, 1, []⟩])
 (.ret))))))))))⟩
/-- loop.example/g00849/laws.szEntry -/
def F12 : F := ⟨2, 13, [.t 4],
 .seq (.reg [⟨(some 2), .box (.t 0), none, 0, 0, []⟩,
   ⟨(some 4), .mv (.k (.int .i64 0)), none, 256, 1, []⟩])
 (.seq (.reg [⟨(some 5), .mv (.t 1), none, 65536, 0, []⟩,
   ⟨(some 6), .faddr 4 (.t 2), none, 65792, 1, []⟩,
   ⟨(some 7), .load 1 false (.t 6), none, 66048, 2, []⟩,
   ⟨(some 8), .len true (.t 7), none, 66304, 3, []⟩,
   ⟨(some 9), .bin .sub (.t 5) (.t 8), none, 66560, 4, []⟩,
   ⟨(some 1), .mv (.t 9), none, 66816, 5, []⟩])
 (.seq (.seq (.reg [⟨(some 10), .mv (.t 1), none, 131072, 0, []⟩,
   ⟨(some 11), .bin .lss (.t 10) (.k (.int .i64 0)), none, 131328, 1, []⟩])
 (.cond (.t 11)
  (.seq (.reg [⟨(some 4), .mv (.k (.int .i64 (-1))), none, 196608, 0, []⟩])
  (.ret))
  (.skip)))
 (.seq (.reg [⟨(some 12), .mv (.t 1), none, 262144, 0, []⟩,
   ⟨(some 4), .mv (.t 12), none, 262400, 1, []⟩])
 (.ret))))⟩
/-- loop.example/g00849/spec.AddEntry -/
def F13 : F := ⟨2, 50, [.cell 4 12 true, .t 5],
 .seq (.reg [⟨(some 2), .box (.t 0), none, 0, 0, []⟩,
   ⟨(some 3), .box (.t 1), none, 256, 1, []⟩,
   ⟨(some 4), .alloc [(.int .i64 0), (.int .i64 0), (.int .i64 0), (.int .i64 0), (.int .i64 0), (.int .i64 0), (.nil true 5), (.nil true 4), (.nil true 10), (.int .i64 0), (.int .i64 0), (.nil true 6)], none, 512, 2, []⟩,
   ⟨(some 5), .mv (.k (.int .i64 0)), none, 768, 3, []⟩])
 (.seq (.block 0 (.seq (.reg [⟨(some 8), .load 12 true (.t 2), none, 65536, 0, []⟩,
   ⟨(some 9), .call 20 [(.t 8)] true, none, 65792, 1, []⟩,
   ⟨(some 10), .not (.t 9), none, 66048, 2, []⟩,
   ⟨(some 11), .mv (.t 10), none, 66304, 3, []⟩,
   ⟨(some 12), .load 10 true (.t 3), (some (some 11, false)), 66560, 4, []⟩,
   ⟨(some 13), .call 44 [(.t 12)] true, (some (some 11, false)), 66816, 5, []⟩,
   ⟨(some 14), .not (.t 13), (some (some 11, false)), 67072, 6, []⟩,
   ⟨(some 15), .pick (.t 11) (.k (.bool true)) (.t 14), none, 67328, 7, []⟩,
   ⟨(some 7), .mv (.t 15), none, 67584, 8, []⟩])
 (.cond (.t 7)
  (.seq (.reg [⟨(some 16), .build [(.int .i64 0), (.int .i64 0), (.int .i64 0), (.int .i64 0), (.int .i64 0), (.int .i64 0), (.nil true 5), (.nil true 4), (.nil true 10), (.int .i64 0), (.int .i64 0), (.nil true 6)] [], none, 131072, 0, []⟩,
    ⟨none, .store 12 (.t 4) (.t 16), none, 131328, 1, []⟩,
    ⟨(some 5), .mv (.k (.int .i64 1)), none, 131584, 2, []⟩])
  (.ret))
  (.seq (.reg [⟨(some 18), .faddr 2 (.t 3), none, 196608, 0, []⟩,
    ⟨(some 19), .load 2 true (.t 18), none, 196864, 1, []⟩,
    ⟨(some 20), .load 12 true (.t 2), none, 197120, 2, []⟩,
    ⟨(some 21), .call 45 [(.t 20)] true, none, 197376, 3, []⟩,
    ⟨(some 22), .eqv true true [.i, .i] (.t 19) (.t 21), none, 197632, 4, []⟩,
    ⟨(some 17), .mv (.t 22), none, 197888, 5, []⟩])
  (.cond (.t 17)
   (.seq (.reg [⟨(some 23), .build [(.int .i64 0), (.int .i64 0), (.int .i64 0), (.int .i64 0), (.int .i64 0), (.int .i64 0), (.nil true 5), (.nil true 4), (.nil true 10), (.int .i64 0), (.int .i64 0), (.nil true 6)] [], none, 262144, 0, []⟩,
     ⟨none, .store 12 (.t 4) (.t 23), none, 262400, 1, []⟩,
     ⟨(some 5), .mv (.k (.int .i64 5)), none, 262656, 2, []⟩])
   (.ret))
   (.seq (.reg [⟨(some 25), .faddr 8 (.t 2), none, 327680, 0, []⟩,
     ⟨(some 26), .load 1 false (.t 25), none, 327936, 1, []⟩,
     ⟨(some 27), .len false (.t 26), none, 328192, 2, []⟩,
     ⟨(some 28), .bin .geq (.t 27) (.k (.int .i64 24)), none, 328448, 3, []⟩,
     ⟨(some 29), .mv (.t 28), none, 328704, 4, []⟩,
     ⟨(some 30), .load 12 true (.t 2), (some (some 29, false)), 328960, 5, []⟩,
     ⟨(some 31), .faddr 8 (.t 2), (some (some 29, false)), 329216, 6, []⟩,
     ⟨(some 32), .load 1 false (.t 31), (some (some 29, false)), 329472, 7, []⟩,
     ⟨(some 33), .len false (.t 32), (some (some 29, false)), 329728, 8, []⟩,
     ⟨(some 34), .call 47 [(.t 30), (.t 33)] false, (some (some 29, false)), 329984, 9, [(.t 3)]⟩,
     ⟨(some 35), .load 10 true (.t 3), (some (some 29, false)), 330240, 10, []⟩,
     ⟨(some 36), .call 46 [(.t 34), (.t 35)] false, (some (some 29, false)), 330496, 11, []⟩,
     ⟨(some 37), .len false (.t 36), (some (some 29, false)), 330752, 12, []⟩,
     ⟨(some 38), .bin .gtr (.t 37) (.k (.int .i64 16)), (some (some 29, false)), 331008, 13, []⟩,
     ⟨(some 39), .pick (.t 29) (.k (.bool true)) (.t 38), none, 331264, 14, []⟩,
     ⟨(some 24), .mv (.t 39), none, 331520, 15, []⟩])
   (.cond (.t 24)
    (.seq (.reg [⟨(some 40), .build [(.int .i64 0), (.int .i64 0), (.int .i64 0), (.int .i64 0), (.int .i64 0), (.int .i64 0), (.nil true 5), (.nil true 4), (.nil true 10), (.int .i64 0), (.int .i64 0), (.nil true 6)] [], none, 393216, 0, []⟩,
      ⟨none, .store 12 (.t 4) (.t 40), none, 393472, 1, []⟩,
      ⟨(some 5), .mv (.k (.int .i64 4)), none, 393728, 2, []⟩])
    (.ret))
    (.skip))))))))
 (.seq (.reg [⟨(some 41), .load 12 true (.t 2), none, 458752, 0, []⟩,
   ⟨(some 42), .call 21 [(.t 41)] false, none, 459008, 1, []⟩,
   ⟨(some 6), .alloc [(.int .i64 0), (.int .i64 0), (.int .i64 0), (.int .i64 0), (.int .i64 0), (.int .i64 0), (.nil true 5), (.nil true 4), (.nil true 10), (.int .i64 0), (.int .i64 0), (.nil true 6)], none, 459264, 2, []⟩,
   ⟨none, .store 12 (.t 6) (.t 42), none, 459520, 3, []⟩])
 (.seq (.reg [⟨(some 43), .faddr 8 (.t 6), none, 524288, 0, []⟩,
   ⟨(some 44), .load 1 false (.t 43), none, 524544, 1, []⟩,
   ⟨(some 45), .load 10 true (.t 3), none, 524800, 2, []⟩,
   ⟨(some 46), .bslice true 10 [(.int .i64 0), (.int .i64 0), (.int .i64 0), (.int .i64 0), (.str ByteArray.empty), (.bool false), (.int .i64 0), (.int .i64 0), (.int .i64 0), (.int .i64 0)] 1 [(0, (.t 45))], none, 525056, 3, []⟩,
   ⟨(some 47), .app true 10 88 (.t 44) (.t 46), none, 525312, 4, []⟩,
   ⟨(some 48), .faddr 8 (.t 6), none, 525568, 5, []⟩,
   ⟨none, .store 1 (.t 48) (.t 47), none, 525824, 6, []⟩])
 (.seq (.reg [⟨(some 49), .load 12 true (.t 6), none, 589824, 0, []⟩,
   ⟨none, .store 12 (.t 4) (.t 49), none, 590080, 1, []⟩,
   ⟨(some 5), .mv (.k (.int .i64 0)), none, 590336, 2, []⟩])
 (.ret)))))⟩
/-- loop.example/g00849/laws.toEntry -/
def F14 : F := ⟨1, 29, [.cell 2 10 true],
 .seq (.reg [⟨(some 1), .box (.t 0), none, 0, 0, []⟩,
   ⟨(some 2), .alloc [(.int .i64 0), (.int .i64 0), (.int .i64 0), (.int .i64 0), (.str ByteArray.empty), (.bool false), (.int .i64 0), (.int .i64 0), (.int .i64 0), (.int .i64 0)], none, 256, 1, []⟩])
 (.seq (.reg [⟨(some 3), .alloc [(.int .i64 0), (.int .i64 0), (.int .i64 0), (.int .i64 0), (.str ByteArray.empty), (.bool false), (.int .i64 0), (.int .i64 0), (.int .i64 0), (.int .i64 0)], none, 65536, 0, []⟩])
 (.seq (.reg [⟨(some 4), .faddr 0 (.t 1), none, 131072, 0, []⟩,
   ⟨(some 5), .load 2 true (.t 4), none, 131328, 1, []⟩,
   ⟨(some 6), .call 23 [(.t 5)] true, none, 131584, 2, []⟩,
   ⟨(some 7), .faddr 0 (.t 3), none, 131840, 3, []⟩,
   ⟨none, .store 2 (.t 7) (.t 6), none, 132096, 4, []⟩])
 (.seq (.reg [⟨(some 8), .faddr 2 (.t 1), none, 196608, 0, []⟩,
   ⟨(some 9), .load 2 true (.t 8), none, 196864, 1, []⟩,
   ⟨(some 10), .call 23 [(.t 9)] true, none, 197120, 2, []⟩,
   ⟨(some 11), .faddr 2 (.t 3), none, 197376, 3, []⟩,
   ⟨none, .store 2 (.t 11) (.t 10), none, 197632, 4, []⟩])
 (.seq (.reg [⟨(some 12), .faddr 4 (.t 1), none, 262144, 0, []⟩,
   ⟨(some 13), .load 1 false (.t 12), none, 262400, 1, []⟩,
   ⟨(some 14), .faddr 4 (.t 3), none, 262656, 2, []⟩,
   ⟨none, .store 1 (.t 14) (.t 13), none, 262912, 3, []⟩])
 (.seq (.reg [⟨(some 15), .faddr 5 (.t 1), none, 327680, 0, []⟩,
   ⟨(some 16), .load 1 false (.t 15), none, 327936, 1, []⟩,
   ⟨(some 17), .faddr 5 (.t 3), none, 328192, 2, []⟩,
   ⟨none, .store 1 (.t 17) (.t 16), none, 328448, 3, []⟩])
 (.seq (.reg [⟨(some 18), .faddr 6 (.t 1), none, 393216, 0, []⟩,
   ⟨(some 19), .load 1 false (.t 18), none, 393472, 1, []⟩,
   ⟨(some 20), .faddr 6 (.t 3), none, 393728, 2, []⟩,
   ⟨none, .store 1 (.t 20) (.t 19), none, 393984, 3, []⟩])
 (.seq (.reg [⟨(some 21), .faddr 7 (.t 1), none, 458752, 0, []⟩,
   ⟨(some 22), .load 1 false (.t 21), none, 459008, 1, []⟩,
   ⟨(some 23), .faddr 7 (.t 3), none, 459264, 2, []⟩,
   ⟨none, .store 1 (.t 23) (.t 22), none, 459520, 3, []⟩])
 (.seq (.reg [⟨(some 24), .faddr 8 (.t 1), none, 524288, 0, []⟩,
   ⟨(some 25), .load 2 true (.t 24), none, 524544, 1, []⟩,
   ⟨(some 26), .call 48 [(.t 25)] true, none, 524800, 2, []⟩,
   ⟨(some 27), .faddr 8 (.t 3), none, 525056, 3, []⟩,
   ⟨none, .store 2 (.t 27) (.t 26), none, 525312, 4, []⟩])
 (.seq (.reg [⟨(some 28), .load 10 true (.t 3), none, 589824, 0, []⟩,
   ⟨none, .store 10 (.t 2) (.t 28), none, 590080, 1, []⟩])
 (.ret))))))))))⟩
/-- loop.example/g00849/impl.AddEntry -/
def F15 : F := ⟨2, 20, [.cell 4 12 true, .t 5],
 .seq (.reg [⟨(some 2), .box (.t 0), none, 0, 0, []⟩,
   ⟨(some 3), .box (.t 1), none, 256, 1, []⟩,
   ⟨(some 4), .alloc [(.int .i64 0), (.int .i64 0), (.int .i64 0), (.int .i64 0), (.int .i64 0), (.int .i64 0), (.nil true 5), (.nil true 4), (.nil true 10), (.int .i64 0), (.int .i64 0), (.nil true 6)], none, 512, 2, []⟩,
   ⟨(some 5), .mv (.k (.int .i64 0)), none, 768, 3, []⟩])
 (.seq (.seq (.reg [⟨(some 6), .load 12 true (.t 2), none, 65536, 0, []⟩,
   ⟨(some 7), .call 28 [(.t 6)] true, none, 65792, 1, []⟩,
   ⟨(some 8), .not (.t 7), none, 66048, 2, []⟩,
   ⟨(some 9), .mv (.t 8), none, 66304, 3, []⟩,
   ⟨(some 10), .load 10 true (.t 3), (some (some 9, false)), 66560, 4, []⟩,
   ⟨(some 11), .call 49 [(.t 10)] true, (some (some 9, false)), 66816, 5, []⟩,
   ⟨(some 12), .not (.t 11), (some (some 9, false)), 67072, 6, []⟩,
   ⟨(some 13), .pick (.t 9) (.k (.bool true)) (.t 12), none, 67328, 7, []⟩])
 (.cond (.t 13)
  (.seq (.reg [⟨(some 14), .build [(.int .i64 0), (.int .i64 0), (.int .i64 0), (.int .i64 0), (.int .i64 0), (.int .i64 0), (.nil true 5), (.nil true 4), (.nil true 10), (.int .i64 0), (.int .i64 0), (.nil true 6)] [], none, 131072, 0, []⟩,
    ⟨none, .store 12 (.t 4) (.t 14), none, 131328, 1, []⟩,
    ⟨(some 5), .mv (.k (.int .i64 1)), none, 131584, 2, []⟩])
  (.ret))
  (.skip)))
 (.seq (.reg [⟨(some 15), .load 12 true (.t 2), none, 196608, 0, []⟩,
   ⟨(some 16), .load 10 true (.t 3), none, 196864, 1, []⟩,
   ⟨(some 17), .call 50 [(.t 15), (.t 16)] false, none, 197120, 2, []⟩,
   ⟨(some 18), .ext (.t 17) 0, none, 197376, 3, []⟩,
   ⟨(some 19), .ext (.t 17) 1, none, 197632, 4, []⟩,
   ⟨none, .store 12 (.t 4) (.t 18), none, 197888, 5, []⟩,
   ⟨(some 5), .mv (.t 19), none, 198144, 6, []⟩])
 (.ret)))⟩
/-- loop.example/g00849/laws.szHeadS -/
def F16 : F := ⟨2, 27, [.t 4],
 .seq (.reg [⟨(some 4), .mv (.k (.int .i64 0)), none, 0, 0, []⟩])
 (.seq (.reg [⟨(some 6), .mv (.t 1), none, 65536, 0, []⟩,
   ⟨(some 7), .mv (.t 0), none, 65792, 1, []⟩,
   ⟨(some 8), .len false (.t 7), none, 66048, 2, []⟩,
   ⟨(some 9), .bin .sub (.t 6) (.t 8), none, 66304, 3, []⟩,
   ⟨(some 1), .mv (.t 9), none, 66560, 4, []⟩])
 (.seq (.seq (.reg [⟨(some 10), .mv (.t 1), none, 131072, 0, []⟩,
   ⟨(some 11), .bin .lss (.t 10) (.k (.int .i64 0)), none, 131328, 1, []⟩])
 (.cond (.t 11)
  (.seq (.reg [⟨(some 4), .mv (.k (.int .i64 (-1))), none, 196608, 0, []⟩])
  (.ret))
  (.skip)))
 (.seq (.seq (.reg [⟨(some 5), .mv (.k (.int .i64 0)), none, 262144, 0, []⟩])
 (.block 0 (.loop [0, 1, 5] []
  (.seq (.seq (.reg [⟨(some 12), .mv (.t 5), none, 327680, 0, []⟩,
    ⟨(some 13), .mv (.t 0), none, 327936, 1, []⟩,
    ⟨(some 14), .len false (.t 13), none, 328192, 2, []⟩,
    ⟨(some 15), .bin .lss (.t 12) (.t 14), none, 328448, 3, []⟩])
  (.cond (.t 15)
   (.skip)
   (.exit 0)))
  (.seq (.block 1 (.seq (.reg [⟨(some 18), .mv (.t 0), none, 458752, 0, []⟩,
    ⟨(some 19), .mv (.t 5), none, 459008, 1, []⟩,
    ⟨(some 20), .iaddr 5 (.t 18) (.t 19), none, 459264, 2, []⟩,
    ⟨(some 21), .load 5 true (.t 20), none, 459520, 3, []⟩,
    ⟨(some 22), .mv (.t 1), none, 459776, 4, []⟩,
    ⟨(some 23), .call 51 [(.t 21), (.t 22)] true, none, 460032, 5, []⟩,
    ⟨(some 1), .mv (.t 23), none, 460288, 6, []⟩])
  (.seq (.reg [⟨(some 24), .mv (.t 1), none, 524288, 0, []⟩,
    ⟨(some 25), .bin .lss (.t 24) (.k (.int .i64 0)), none, 524544, 1, []⟩])
  (.cond (.t 25)
   (.seq (.reg [⟨(some 4), .mv (.k (.int .i64 (-1))), none, 589824, 0, []⟩])
   (.ret))
   (.skip)))))
  (.reg [⟨(some 16), .mv (.t 5), none, 393216, 0, []⟩,
    ⟨(some 17), .bin .add (.t 16) (.k (.int .i64 1)), none, 393472, 1, []⟩,
    ⟨(some 5), .mv (.t 17), none, 393728, 2, []⟩]))))))
 (.seq (.reg [⟨(some 26), .mv (.t 1), none, 655360, 0, []⟩,
   ⟨(some 4), .mv (.t 26), none, 655616, 1, []⟩])
 (.ret)))))⟩
/-- loop.example/g00849/laws.szLastS -/
def F17 : F := ⟨2, 12, [.t 4],
 .seq (.reg [⟨(some 4), .mv (.k (.int .i64 0)), none, 0, 0, []⟩])
 (.seq (.reg [⟨(some 5), .mv (.t 1), none, 65536, 0, []⟩,
   ⟨(some 6), .mv (.t 0), none, 65792, 1, []⟩,
   ⟨(some 7), .len false (.t 6), none, 66048, 2, []⟩,
   ⟨(some 8), .bin .sub (.t 5) (.t 7), none, 66304, 3, []⟩,
   ⟨(some 1), .mv (.t 8), none, 66560, 4, []⟩])
 (.seq (.seq (.reg [⟨(some 9), .mv (.t 1), none, 131072, 0, []⟩,
   ⟨(some 10), .bin .lss (.t 9) (.k (.int .i64 0)), none, 131328, 1, []⟩])
 (.cond (.t 10)
  (.seq (.reg [⟨(some 4), .mv (.k (.int .i64 (-1))), none, 196608, 0, []⟩])
  (.ret))
  (.skip)))
 (.seq (.reg [⟨(some 11), .mv (.t 1), none, 262144, 0, []⟩,
   ⟨(some 4), .mv (.t 11), none, 262400, 1, []⟩])
 (.ret))))⟩
/-- loop.example/g00849/laws.szEntryS -/
def F18 : F := ⟨2, 27, [.t 4],
 .seq (.reg [⟨(some 4), .mv (.k (.int .i64 0)), none, 0, 0, []⟩])
 (.seq (.reg [⟨(some 6), .mv (.t 1), none, 65536, 0, []⟩,
   ⟨(some 7), .mv (.t 0), none, 65792, 1, []⟩,
   ⟨(some 8), .len false (.t 7), none, 66048, 2, []⟩,
   ⟨(some 9), .bin .sub (.t 6) (.t 8), none, 66304, 3, []⟩,
   ⟨(some 1), .mv (.t 9), none, 66560, 4, []⟩])
 (.seq (.seq (.reg [⟨(some 10), .mv (.t 1), none, 131072, 0, []⟩,
   ⟨(some 11), .bin .lss (.t 10) (.k (.int .i64 0)), none, 131328, 1, []⟩])
 (.cond (.t 11)
  (.seq (.reg [⟨(some 4), .mv (.k (.int .i64 (-1))), none, 196608, 0, []⟩])
  (.ret))
  (.skip)))
 (.seq (.seq (.reg [⟨(some 5), .mv (.k (.int .i64 0)), none, 262144, 0, []⟩])
 (.block 0 (.loop [0, 1, 5] []
  (.seq (.seq (.reg [⟨(some 12), .mv (.t 5), none, 327680, 0, []⟩,
    ⟨(some 13), .mv (.t 0), none, 327936, 1, []⟩,
    ⟨(some 14), .len false (.t 13), none, 328192, 2, []⟩,
    ⟨(some 15), .bin .lss (.t 12) (.t 14), none, 328448, 3, []⟩])
  (.cond (.t 15)
   (.skip)
   (.exit 0)))
  (.seq (.block 1 (.seq (.reg [⟨(some 18), .mv (.t 0), none, 458752, 0, []⟩,
    ⟨(some 19), .mv (.t 5), none, 459008, 1, []⟩,
    ⟨(some 20), .iaddr 10 (.t 18) (.t 19), none, 459264, 2, []⟩,
    ⟨(some 21), .load 10 true (.t 20), none, 459520, 3, []⟩,
    ⟨(some 22), .mv (.t 1), none, 459776, 4, []⟩,
    ⟨(some 23), .call 12 [(.t 21), (.t 22)] true, none, 460032, 5, []⟩,
    ⟨(some 1), .mv (.t 23), none, 460288, 6, []⟩])
  (.seq (.reg [⟨(some 24), .mv (.t 1), none, 524288, 0, []⟩,
    ⟨(some 25), .bin .lss (.t 24) (.k (.int .i64 0)), none, 524544, 1, []⟩])
  (.cond (.t 25)
   (.seq (.reg [⟨(some 4), .mv (.k (.int .i64 (-1))), none, 589824, 0, []⟩])
   (.ret))
   (.skip)))))
  (.reg [⟨(some 16), .mv (.t 5), none, 393216, 0, []⟩,
    ⟨(some 17), .bin .add (.t 16) (.k (.int .i64 1)), none, 393472, 1, []⟩,
    ⟨(some 5), .mv (.t 17), none, 393728, 2, []⟩]))))))
 (.seq (.reg [⟨(some 26), .mv (.t 1), none, 655360, 0, []⟩,
   ⟨(some 4), .mv (.t 26), none, 655616, 1, []⟩])
 (.ret)))))⟩
/-- loop.example/g00849/laws.szChunkS -/
def F19 : F := ⟨2, 27, [.t 4],
 .seq (.reg [⟨(some 4), .mv (.k (.int .i64 0)), none, 0, 0, []⟩])
 (.seq (.reg [⟨(some 6), .mv (.t 1), none, 65536, 0, []⟩,
   ⟨(some 7), .mv (.t 0), none, 65792, 1, []⟩,
   ⟨(some 8), .len false (.t 7), none, 66048, 2, []⟩,
   ⟨(some 9), .bin .sub (.t 6) (.t 8), none, 66304, 3, []⟩,
   ⟨(some 1), .mv (.t 9), none, 66560, 4, []⟩])
 (.seq (.seq (.reg [⟨(some 10), .mv (.t 1), none, 131072, 0, []⟩,
   ⟨(some 11), .bin .lss (.t 10) (.k (.int .i64 0)), none, 131328, 1, []⟩])
 (.cond (.t 11)
  (.seq (.reg [⟨(some 4), .mv (.k (.int .i64 (-1))), none, 196608, 0, []⟩])
  (.ret))
  (.skip)))
 (.seq (.seq (.reg [⟨(some 5), .mv (.k (.int .i64 0)), none, 262144, 0, []⟩])
 (.block 0 (.loop [0, 1, 5] []
  (.seq (.seq (.reg [⟨(some 12), .mv (.t 5), none, 327680, 0, []⟩,
    ⟨(some 13), .mv (.t 0), none, 327936, 1, []⟩,
    ⟨(some 14), .len false (.t 13), none, 328192, 2, []⟩,
    ⟨(some 15), .bin .lss (.t 12) (.t 14), none, 328448, 3, []⟩])
  (.cond (.t 15)
   (.skip)
   (.exit 0)))
  (.seq (.block 1 (.seq (.reg [⟨(some 18), .mv (.t 0), none, 458752, 0, []⟩,
    ⟨(some 19), .mv (.t 5), none, 459008, 1, []⟩,
    ⟨(some 20), .iaddr 6 (.t 18) (.t 19), none, 459264, 2, []⟩,
    ⟨(some 21), .load 6 true (.t 20), none, 459520, 3, []⟩,
    ⟨(some 22), .mv (.t 1), none, 459776, 4, []⟩,
    ⟨(some 23), .call 52 [(.t 21), (.t 22)] true, none, 460032, 5, []⟩,
    ⟨(some 1), .mv (.t 23), none, 460288, 6, []⟩])
  (.seq (.reg [⟨(some 24), .mv (.t 1), none, 524288, 0, []⟩,
    ⟨(some 25), .bin .lss (.t 24) (.k (.int .i64 0)), none, 524544, 1, []⟩])
  (.cond (.t 25)
   (.seq (.reg [⟨(some 4), .mv (.k (.int .i64 (-1))), none, 589824, 0, []⟩])
   (.ret))
   (.skip)))))
  (.reg [⟨(some 16), .mv (.t 5), none, 393216, 0, []⟩,
    ⟨(some 17), .bin .add (.t 16) (.k (.int .i64 1)), none, 393472, 1, []⟩,
    ⟨(some 5), .mv (.t 17), none, 393728, 2, []⟩]))))))
 (.seq (.reg [⟨(some 26), .mv (.t 1), none, 655360, 0, []⟩,
   ⟨(some 4), .mv (.t 26), none, 655616, 1, []⟩])
 (.ret)))))⟩
/-- loop.example/g00849/spec.StateOk -/
def F20 : F := ⟨1, 62, [.t 2],
 .seq (.reg [⟨(some 1), .box (.t 0), none, 0, 0, []⟩,
   ⟨(some 2), .mv (.k (.bool false)), none, 256, 1, []⟩])
 (.seq (.seq (.reg [⟨(some 3), .faddr 0 (.t 1), none, 65536, 0, []⟩,
   ⟨(some 4), .load 2 true (.t 3), none, 65792, 1, []⟩,
   ⟨(some 5), .call 53 [(.t 4)] true, none, 66048, 2, []⟩,
   ⟨(some 6), .not (.t 5), none, 66304, 3, []⟩,
   ⟨(some 7), .mv (.t 6), none, 66560, 4, []⟩,
   ⟨(some 8), .faddr 2 (.t 1), (some (some 7, false)), 66816, 5, []⟩,
   ⟨(some 9), .load 1 false (.t 8), (some (some 7, false)), 67072, 6, []⟩,
   ⟨(some 10), .call 54 [(.t 9), (.k (.int .i64 0)), (.k (.int .i64 60))] true, (some (some 7, false)), 67328, 7, []⟩,
   ⟨(some 11), .not (.t 10), (some (some 7, false)), 67584, 8, []⟩,
   ⟨(some 12), .pick (.t 7) (.k (.bool true)) (.t 11), none, 67840, 9, []⟩,
   ⟨(some 13), .mv (.t 12), none, 68096, 10, []⟩,
   ⟨(some 14), .faddr 3 (.t 1), (some (some 13, false)), 68352, 11, []⟩,
   ⟨(some 15), .load 1 false (.t 14), (some (some 13, false)), 68608, 12, []⟩,
   ⟨(some 16), .faddr 2 (.t 1), (some (some 13, false)), 68864, 13, []⟩,
   ⟨(some 17), .load 1 false (.t 16), (some (some 13, false)), 69120, 14, []⟩,
   ⟨(some 18), .call 54 [(.t 15), (.k (.int .i64 0)), (.t 17)] true, (some (some 13, false)), 69376, 15, []⟩,
   ⟨(some 19), .not (.t 18), (some (some 13, false)), 69632, 16, []⟩,
   ⟨(some 20), .pick (.t 13) (.k (.bool true)) (.t 19), none, 69888, 17, []⟩,
   ⟨(some 21), .mv (.t 20), none, 70144, 18, []⟩,
   ⟨(some 22), .faddr 4 (.t 1), (some (some 21, false)), 70400, 19, []⟩,
   ⟨(some 23), .load 2 true (.t 22), (some (some 21, false)), 70656, 20, []⟩,
   ⟨(some 24), .call 55 [(.t 23)] true, (some (some 21, false)), 70912, 21, []⟩,
   ⟨(some 25), .not (.t 24), (some (some 21, false)), 71168, 22, []⟩,
   ⟨(some 26), .pick (.t 21) (.k (.bool true)) (.t 25), none, 71424, 23, []⟩,
   ⟨(some 27), .mv (.t 26), none, 71680, 24, []⟩,
   ⟨(some 28), .faddr 9 (.t 1), (some (some 27, false)), 71936, 25, []⟩,
   ⟨(some 29), .load 2 true (.t 28), (some (some 27, false)), 72192, 26, []⟩,
   ⟨(some 30), .call 55 [(.t 29)] true, (some (some 27, false)), 72448, 27, []⟩,
   ⟨(some 31), .not (.t 30), (some (some 27, false)), 72704, 28, []⟩,
   ⟨(some 32), .pick (.t 27) (.k (.bool true)) (.t 31), none, 72960, 29, []⟩])
 (.cond (.t 32)
  (.seq (.reg [⟨(some 2), .mv (.k (.bool false)), none, 131072, 0, []⟩])
  (.ret))
  (.skip)))
 (.seq (.reg [⟨(some 33), .faddr 6 (.t 1), none, 196608, 0, []⟩,
   ⟨(some 34), .load 1 false (.t 33), none, 196864, 1, []⟩,
   ⟨(some 35), .faddr 4 (.t 1), none, 197120, 2, []⟩,
   ⟨(some 36), .load 2 true (.t 35), none, 197376, 3, []⟩,
   ⟨(some 37), .call 56 [(.t 34), (.t 36)] true, none, 197632, 4, []⟩,
   ⟨(some 38), .mv (.t 37), none, 197888, 5, []⟩,
   ⟨(some 39), .faddr 7 (.t 1), (some (some 38, true)), 198144, 6, []⟩,
   ⟨(some 40), .load 1 false (.t 39), (some (some 38, true)), 198400, 7, []⟩,
   ⟨(some 41), .faddr 4 (.t 1), (some (some 38, true)), 198656, 8, []⟩,
   ⟨(some 42), .load 2 true (.t 41), (some (some 38, true)), 198912, 9, []⟩,
   ⟨(some 43), .call 57 [(.t 40), (.t 42)] true, (some (some 38, true)), 199168, 10, []⟩,
   ⟨(some 44), .pick (.t 38) (.t 43) (.k (.bool false)), none, 199424, 11, []⟩,
   ⟨(some 45), .mv (.t 44), none, 199680, 12, []⟩,
   ⟨(some 46), .load 12 true (.t 1), (some (some 45, true)), 199936, 13, []⟩,
   ⟨(some 47), .call 58 [(.t 46)] true, (some (some 45, true)), 200192, 14, []⟩,
   ⟨(some 48), .pick (.t 45) (.t 47) (.k (.bool false)), none, 200448, 15, []⟩,
   ⟨(some 49), .mv (.t 48), none, 200704, 16, []⟩,
   ⟨(some 50), .load 12 true (.t 1), (some (some 49, true)), 200960, 17, []⟩,
   ⟨(some 51), .call 45 [(.t 50)] true, (some (some 49, true)), 201216, 18, []⟩,
   ⟨(some 52), .faddr 9 (.t 1), (some (some 49, true)), 201472, 19, []⟩,
   ⟨(some 53), .load 2 true (.t 52), (some (some 49, true)), 201728, 20, []⟩,
   ⟨(some 54), .call 59 [(.t 51), (.t 53)] true, (some (some 49, true)), 201984, 21, []⟩,
   ⟨(some 55), .not (.t 54), (some (some 49, true)), 202240, 22, []⟩,
   ⟨(some 56), .pick (.t 49) (.t 55) (.k (.bool false)), none, 202496, 23, []⟩,
   ⟨(some 57), .mv (.t 56), none, 202752, 24, []⟩,
   ⟨(some 58), .faddr 11 (.t 1), (some (some 57, true)), 203008, 25, []⟩,
   ⟨(some 59), .load 1 false (.t 58), (some (some 57, true)), 203264, 26, []⟩,
   ⟨(some 60), .call 60 [(.t 59)] true, (some (some 57, true)), 203520, 27, []⟩,
   ⟨(some 61), .pick (.t 57) (.t 60) (.k (.bool false)), none, 203776, 28, []⟩,
   ⟨(some 2), .mv (.t 61), none, 204032, 29, []⟩])
 (.ret)))⟩
/-- loop.example/g00849/spec.l17Copy -/
def F21 : F := ⟨1, 26, [.cell 2 12 true],
 .seq (.reg [⟨(some 1), .box (.t 0), none, 0, 0, []⟩,
   ⟨(some 2), .alloc [(.int .i64 0), (.int .i64 0), (.int .i64 0), (.int .i64 0), (.int .i64 0), (.int .i64 0), (.nil true 5), (.nil true 4), (.nil true 10), (.int .i64 0), (.int .i64 0), (.nil true 6)], none, 256, 1, []⟩])
 (.seq (.reg [⟨(some 4), .load 12 true (.t 1), none, 65536, 0, []⟩,
   ⟨(some 3), .alloc [(.int .i64 0), (.int .i64 0), (.int .i64 0), (.int .i64 0), (.int .i64 0), (.int .i64 0), (.nil true 5), (.nil true 4), (.nil true 10), (.int .i64 0), (.int .i64 0), (.nil true 6)], none, 65792, 1, []⟩,
   ⟨none, .store 12 (.t 3) (.t 4), none, 66048, 2, []⟩])
 (.seq (.reg [⟨(some 5), .bslice true 5 [(.str ByteArray.empty), (.int .i64 0), (.int .i64 0), (.int .i64 0), (.int .i64 0)] 0 [], none, 131072, 0, []⟩,
   ⟨(some 6), .faddr 6 (.t 1), none, 131328, 1, []⟩,
   ⟨(some 7), .load 1 false (.t 6), none, 131584, 2, []⟩,
   ⟨(some 8), .app true 5 48 (.t 5) (.t 7), none, 131840, 3, []⟩,
   ⟨(some 9), .faddr 6 (.t 3), none, 132096, 4, []⟩,
   ⟨none, .store 1 (.t 9) (.t 8), none, 132352, 5, []⟩])
 (.seq (.reg [⟨(some 10), .bslice true 4 [(.int .i64 0), (.int .i64 0), (.int .i64 0), (.int .i64 0)] 0 [], none, 196608, 0, []⟩,
   ⟨(some 11), .faddr 7 (.t 1), none, 196864, 1, []⟩,
   ⟨(some 12), .load 1 false (.t 11), none, 197120, 2, []⟩,
   ⟨(some 13), .app true 4 32 (.t 10) (.t 12), none, 197376, 3, []⟩,
   ⟨(some 14), .faddr 7 (.t 3), none, 197632, 4, []⟩,
   ⟨none, .store 1 (.t 14) (.t 13), none, 197888, 5, []⟩])
 (.seq (.reg [⟨(some 15), .bslice true 10 [(.int .i64 0), (.int .i64 0), (.int .i64 0), (.int .i64 0), (.str ByteArray.empty), (.bool false), (.int .i64 0), (.int .i64 0), (.int .i64 0), (.int .i64 0)] 0 [], none, 262144, 0, []⟩,
   ⟨(some 16), .faddr 8 (.t 1), none, 262400, 1, []⟩,
   ⟨(some 17), .load 1 false (.t 16), none, 262656, 2, []⟩,
   ⟨(some 18), .app true 10 88 (.t 15) (.t 17), none, 262912, 3, []⟩,
   ⟨(some 19), .faddr 8 (.t 3), none, 263168, 4, []⟩,
   ⟨none, .store 1 (.t 19) (.t 18), none, 263424, 5, []⟩])
 (.seq (.reg [⟨(some 20), .bslice true 6 [(.str ByteArray.empty), (.int .i64 0), (.int .i64 0), (.int .i64 0), (.int .i64 0), (.str ByteArray.empty)] 0 [], none, 327680, 0, []⟩,
   ⟨(some 21), .faddr 11 (.t 1), none, 327936, 1, []⟩,
   ⟨(some 22), .load 1 false (.t 21), none, 328192, 2, []⟩,
   ⟨(some 23), .app true 6 64 (.t 20) (.t 22), none, 328448, 3, []⟩,
   ⟨(some 24), .faddr 11 (.t 3), none, 328704, 4, []⟩,
   ⟨none, .store 1 (.t 24) (.t 23), none, 328960, 5, []⟩])
 (.seq (.reg [⟨(some 25), .load 12 true (.t 3), none, 393216, 0, []⟩,
   ⟨none, .store 12 (.t 2) (.t 25), none, 393472, 1, []⟩])
 (.ret)))))))⟩
/-- loop.example/g00849/laws.toPg -/
def F22 : F := ⟨1, 11, [.cell 2 2 true],
 .seq (.reg [⟨(some 1), .box (.t 0), none, 0, 0, []⟩,
   ⟨(some 2), .alloc [(.int .i64 0), (.int .i64 0)], none, 256, 1, []⟩])
 (.seq (.reg [⟨(some 3), .alloc [(.int .i64 0), (.int .i64 0)], none, 65536, 0, []⟩])
 (.seq (.reg [⟨(some 4), .faddr 0 (.t 1), none, 131072, 0, []⟩,
   ⟨(some 5), .load 1 false (.t 4), none, 131328, 1, []⟩,
   ⟨(some 6), .faddr 0 (.t 3), none, 131584, 2, []⟩,
   ⟨none, .store 1 (.t 6) (.t 5), none, 131840, 3, []⟩])
 (.seq (.reg [⟨(some 7), .faddr 1 (.t 1), none, 196608, 0, []⟩,
   ⟨(some 8), .load 1 false (.t 7), none, 196864, 1, []⟩,
   ⟨(some 9), .faddr 1 (.t 3), none, 197120, 2, []⟩,
   ⟨none, .store 1 (.t 9) (.t 8), none, 197376, 3, []⟩])
 (.seq (.reg [⟨(some 10), .load 2 true (.t 3), none, 262144, 0, []⟩,
   ⟨none, .store 2 (.t 2) (.t 10), none, 262400, 1, []⟩])
 (.ret)))))⟩
/-- loop.example/g00849/laws.toVer -/
def F23 : F := ⟨1, 11, [.cell 2 2 true],
 .seq (.reg [⟨(some 1), .box (.t 0), none, 0, 0, []⟩,
   ⟨(some 2), .alloc [(.int .i64 0), (.int .i64 0)], none, 256, 1, []⟩])
 (.seq (.reg [⟨(some 3), .alloc [(.int .i64 0), (.int .i64 0)], none, 65536, 0, []⟩])
 (.seq (.reg [⟨(some 4), .faddr 0 (.t 1), none, 131072, 0, []⟩,
   ⟨(some 5), .load 1 false (.t 4), none, 131328, 1, []⟩,
   ⟨(some 6), .faddr 0 (.t 3), none, 131584, 2, []⟩,
   ⟨none, .store 1 (.t 6) (.t 5), none, 131840, 3, []⟩])
 (.seq (.reg [⟨(some 7), .faddr 1 (.t 1), none, 196608, 0, []⟩,
   ⟨(some 8), .load 1 false (.t 7), none, 196864, 1, []⟩,
   ⟨(some 9), .faddr 1 (.t 3), none, 197120, 2, []⟩,
   ⟨none, .store 1 (.t 9) (.t 8), none, 197376, 3, []⟩])
 (.seq (.reg [⟨(some 10), .load 2 true (.t 3), none, 262144, 0, []⟩,
   ⟨none, .store 2 (.t 2) (.t 10), none, 262400, 1, []⟩])
 (.ret)))))⟩
/-- loop.example/g00849/laws.toHeadS -/
def F24 : F := ⟨1, 23, [.t 2],
 .seq (.reg [⟨(some 2), .nil0 true 5, none, 0, 0, []⟩])
 (.seq (.reg [⟨(some 5), .mv (.t 0), none, 65536, 0, []⟩,
   ⟨(some 6), .len false (.t 5), none, 65792, 1, []⟩,
   ⟨(some 7), .mksl true 5 48 [(.str ByteArray.empty), (.int .i64 0), (.int .i64 0), (.int .i64 0), (.int .i64 0)] (.t 6) (.t 6), none, 66048, 2, []⟩,
   ⟨(some 3), .mv (.t 7), none, 66304, 3, []⟩])
 (.seq (.seq (.reg [⟨(some 4), .mv (.k (.int .i64 0)), none, 131072, 0, []⟩])
 (.block 0 (.loop [0, 3, 4] [0, 66048]
  (.seq (.seq (.reg [⟨(some 8), .mv (.t 4), none, 196608, 0, []⟩,
    ⟨(some 9), .mv (.t 0), none, 196864, 1, []⟩,
    ⟨(some 10), .len false (.t 9), none, 197120, 2, []⟩,
    ⟨(some 11), .bin .lss (.t 8) (.t 10), none, 197376, 3, []⟩])
  (.cond (.t 11)
   (.skip)
   (.exit 0)))
  (.seq (.block 1 (.reg [⟨(some 14), .mv (.t 3), none, 327680, 0, []⟩,
    ⟨(some 15), .mv (.t 4), none, 327936, 1, []⟩,
    ⟨(some 16), .mv (.t 0), none, 328192, 2, []⟩,
    ⟨(some 17), .mv (.t 4), none, 328448, 3, []⟩,
    ⟨(some 18), .iaddr 5 (.t 16) (.t 17), none, 328704, 4, []⟩,
    ⟨(some 19), .load 5 true (.t 18), none, 328960, 5, []⟩,
    ⟨(some 20), .call 61 [(.t 19)] true, none, 329216, 6, []⟩,
    ⟨(some 21), .iaddr 5 (.t 14) (.t 15), none, 329472, 7, []⟩,
    ⟨none, .store 5 (.t 21) (.t 20), none, 329728, 8, []⟩]))
  (.reg [⟨(some 12), .mv (.t 4), none, 262144, 0, []⟩,
    ⟨(some 13), .bin .add (.t 12) (.k (.int .i64 1)), none, 262400, 1, []⟩,
    ⟨(some 4), .mv (.t 13), none, 262656, 2, []⟩]))))))
 (.seq (.reg [⟨(some 22), .mv (.t 3), none, 393216, 0, []⟩,
   ⟨(some 2), .mv (.t 22), none, 393472, 1, []⟩])
 (.ret))))⟩
/-- loop.example/g00849/laws.toLastS -/
def F25 : F := ⟨1, 23, [.t 2],
 .seq (.reg [⟨(some 2), .nil0 true 4, none, 0, 0, []⟩])
 (.seq (.reg [⟨(some 5), .mv (.t 0), none, 65536, 0, []⟩,
   ⟨(some 6), .len false (.t 5), none, 65792, 1, []⟩,
   ⟨(some 7), .mksl true 4 32 [(.int .i64 0), (.int .i64 0), (.int .i64 0), (.int .i64 0)] (.t 6) (.t 6), none, 66048, 2, []⟩,
   ⟨(some 3), .mv (.t 7), none, 66304, 3, []⟩])
 (.seq (.seq (.reg [⟨(some 4), .mv (.k (.int .i64 0)), none, 131072, 0, []⟩])
 (.block 0 (.loop [0, 3, 4] [0, 66048]
  (.seq (.seq (.reg [⟨(some 8), .mv (.t 4), none, 196608, 0, []⟩,
    ⟨(some 9), .mv (.t 0), none, 196864, 1, []⟩,
    ⟨(some 10), .len false (.t 9), none, 197120, 2, []⟩,
    ⟨(some 11), .bin .lss (.t 8) (.t 10), none, 197376, 3, []⟩])
  (.cond (.t 11)
   (.skip)
   (.exit 0)))
  (.seq (.block 1 (.reg [⟨(some 14), .mv (.t 3), none, 327680, 0, []⟩,
    ⟨(some 15), .mv (.t 4), none, 327936, 1, []⟩,
    ⟨(some 16), .mv (.t 0), none, 328192, 2, []⟩,
    ⟨(some 17), .mv (.t 4), none, 328448, 3, []⟩,
    ⟨(some 18), .iaddr 4 (.t 16) (.t 17), none, 328704, 4, []⟩,
    ⟨(some 19), .load 4 true (.t 18), none, 328960, 5, []⟩,
    ⟨(some 20), .call 62 [(.t 19)] true, none, 329216, 6, []⟩,
    ⟨(some 21), .iaddr 4 (.t 14) (.t 15), none, 329472, 7, []⟩,
    ⟨none, .store 4 (.t 21) (.t 20), none, 329728, 8, []⟩]))
  (.reg [⟨(some 12), .mv (.t 4), none, 262144, 0, []⟩,
    ⟨(some 13), .bin .add (.t 12) (.k (.int .i64 1)), none, 262400, 1, []⟩,
    ⟨(some 4), .mv (.t 13), none, 262656, 2, []⟩]))))))
 (.seq (.reg [⟨(some 22), .mv (.t 3), none, 393216, 0, []⟩,
   ⟨(some 2), .mv (.t 22), none, 393472, 1, []⟩])
 (.ret))))⟩
/-- loop.example/g00849/laws.toEntryS -/
def F26 : F := ⟨1, 23, [.t 2],
 .seq (.reg [⟨(some 2), .nil0 true 10, none, 0, 0, []⟩])
 (.seq (.reg [⟨(some 5), .mv (.t 0), none, 65536, 0, []⟩,
   ⟨(some 6), .len false (.t 5), none, 65792, 1, []⟩,
   ⟨(some 7), .mksl true 10 88 [(.int .i64 0), (.int .i64 0), (.int .i64 0), (.int .i64 0), (.str ByteArray.empty), (.bool false), (.int .i64 0), (.int .i64 0), (.int .i64 0), (.int .i64 0)] (.t 6) (.t 6), none, 66048, 2, []⟩,
   ⟨(some 3), .mv (.t 7), none, 66304, 3, []⟩])
 (.seq (.seq (.reg [⟨(some 4), .mv (.k (.int .i64 0)), none, 131072, 0, []⟩])
 (.block 0 (.loop [0, 3, 4] [0, 66048]
  (.seq (.seq (.reg [⟨(some 8), .mv (.t 4), none, 196608, 0, []⟩,
    ⟨(some 9), .mv (.t 0), none, 196864, 1, []⟩,
    ⟨(some 10), .len false (.t 9), none, 197120, 2, []⟩,
    ⟨(some 11), .bin .lss (.t 8) (.t 10), none, 197376, 3, []⟩])
  (.cond (.t 11)
   (.skip)
   (.exit 0)))
  (.seq (.block 1 (.reg [⟨(some 14), .mv (.t 3), none, 327680, 0, []⟩,
    ⟨(some 15), .mv (.t 4), none, 327936, 1, []⟩,
    ⟨(some 16), .mv (.t 0), none, 328192, 2, []⟩,
    ⟨(some 17), .mv (.t 4), none, 328448, 3, []⟩,
    ⟨(some 18), .iaddr 10 (.t 16) (.t 17), none, 328704, 4, []⟩,
    ⟨(some 19), .load 10 true (.t 18), none, 328960, 5, []⟩,
    ⟨(some 20), .call 14 [(.t 19)] true, none, 329216, 6, []⟩,
    ⟨(some 21), .iaddr 10 (.t 14) (.t 15), none, 329472, 7, []⟩,
    ⟨none, .store 10 (.t 21) (.t 20), none, 329728, 8, []⟩]))
  (.reg [⟨(some 12), .mv (.t 4), none, 262144, 0, []⟩,
    ⟨(some 13), .bin .add (.t 12) (.k (.int .i64 1)), none, 262400, 1, []⟩,
    ⟨(some 4), .mv (.t 13), none, 262656, 2, []⟩]))))))
 (.seq (.reg [⟨(some 22), .mv (.t 3), none, 393216, 0, []⟩,
   ⟨(some 2), .mv (.t 22), none, 393472, 1, []⟩])
 (.ret))))⟩
/-- loop.example/g00849/laws.toChunkS -/
def F27 : F := ⟨1, 23, [.t 2],
 .seq (.reg [⟨(some 2), .nil0 true 6, none, 0, 0, []⟩])
 (.seq (.reg [⟨(some 5), .mv (.t 0), none, 65536, 0, []⟩,
   ⟨(some 6), .len false (.t 5), none, 65792, 1, []⟩,
   ⟨(some 7), .mksl true 6 64 [(.str ByteArray.empty), (.int .i64 0), (.int .i64 0), (.int .i64 0), (.int .i64 0), (.str ByteArray.empty)] (.t 6) (.t 6), none, 66048, 2, []⟩,
   ⟨(some 3), .mv (.t 7), none, 66304, 3, []⟩])
 (.seq (.seq (.reg [⟨(some 4), .mv (.k (.int .i64 0)), none, 131072, 0, []⟩])
 (.block 0 (.loop [0, 3, 4] [0, 66048]
  (.seq (.seq (.reg [⟨(some 8), .mv (.t 4), none, 196608, 0, []⟩,
    ⟨(some 9), .mv (.t 0), none, 196864, 1, []⟩,
    ⟨(some 10), .len false (.t 9), none, 197120, 2, []⟩,
    ⟨(some 11), .bin .lss (.t 8) (.t 10), none, 197376, 3, []⟩])
  (.cond (.t 11)
   (.skip)
   (.exit 0)))
  (.seq (.block 1 (.reg [⟨(some 14), .mv (.t 3), none, 327680, 0, []⟩,
    ⟨(some 15), .mv (.t 4), none, 327936, 1, []⟩,
    ⟨(some 16), .mv (.t 0), none, 328192, 2, []⟩,
    ⟨(some 17), .mv (.t 4), none, 328448, 3, []⟩,
    ⟨(some 18), .iaddr 6 (.t 16) (.t 17), none, 328704, 4, []⟩,
    ⟨(some 19), .load 6 true (.t 18), none, 328960, 5, []⟩,
    ⟨(some 20), .call 63 [(.t 19)] true, none, 329216, 6, []⟩,
    ⟨(some 21), .iaddr 6 (.t 14) (.t 15), none, 329472, 7, []⟩,
    ⟨none, .store 6 (.t 21) (.t 20), none, 329728, 8, []⟩]))
  (.reg [⟨(some 12), .mv (.t 4), none, 262144, 0, []⟩,
    ⟨(some 13), .bin .add (.t 12) (.k (.int .i64 1)), none, 262400, 1, []⟩,
    ⟨(some 4), .mv (.t 13), none, 262656, 2, []⟩]))))))
 (.seq (.reg [⟨(some 22), .mv (.t 3), none, 393216, 0, []⟩,
   ⟨(some 2), .mv (.t 22), none, 393472, 1, []⟩])
 (.ret))))⟩
/-- loop.example/g00849/impl.StateOk -/
def F28 : F := ⟨1, 48, [.t 2],
 .seq (.reg [⟨(some 1), .box (.t 0), none, 0, 0, []⟩,
   ⟨(some 2), .mv (.k (.bool false)), none, 256, 1, []⟩])
 (.seq (.reg [⟨(some 3), .faddr 0 (.t 1), none, 65536, 0, []⟩,
   ⟨(some 4), .load 2 true (.t 3), none, 65792, 1, []⟩,
   ⟨(some 5), .call 64 [(.t 4)] true, none, 66048, 2, []⟩,
   ⟨(some 6), .mv (.t 5), none, 66304, 3, []⟩,
   ⟨(some 7), .faddr 2 (.t 1), (some (some 6, true)), 66560, 4, []⟩,
   ⟨(some 8), .load 1 false (.t 7), (some (some 6, true)), 66816, 5, []⟩,
   ⟨(some 9), .call 65 [(.t 8), (.k (.int .i64 0)), (.k (.int .i64 60))] true, (some (some 6, true)), 67072, 6, []⟩,
   ⟨(some 10), .pick (.t 6) (.t 9) (.k (.bool false)), none, 67328, 7, []⟩,
   ⟨(some 11), .mv (.t 10), none, 67584, 8, []⟩,
   ⟨(some 12), .faddr 3 (.t 1), (some (some 11, true)), 67840, 9, []⟩,
   ⟨(some 13), .load 1 false (.t 12), (some (some 11, true)), 68096, 10, []⟩,
   ⟨(some 14), .faddr 2 (.t 1), (some (some 11, true)), 68352, 11, []⟩,
   ⟨(some 15), .load 1 false (.t 14), (some (some 11, true)), 68608, 12, []⟩,
   ⟨(some 16), .call 65 [(.t 13), (.k (.int .i64 0)), (.t 15)] true, (some (some 11, true)), 68864, 13, []⟩,
   ⟨(some 17), .pick (.t 11) (.t 16) (.k (.bool false)), none, 69120, 14, []⟩,
   ⟨(some 18), .mv (.t 17), none, 69376, 15, []⟩,
   ⟨(some 19), .faddr 4 (.t 1), (some (some 18, true)), 69632, 16, []⟩,
   ⟨(some 20), .load 2 true (.t 19), (some (some 18, true)), 69888, 17, []⟩,
   ⟨(some 21), .call 66 [(.t 20)] true, (some (some 18, true)), 70144, 18, []⟩,
   ⟨(some 22), .pick (.t 18) (.t 21) (.k (.bool false)), none, 70400, 19, []⟩,
   ⟨(some 23), .mv (.t 22), none, 70656, 20, []⟩,
   ⟨(some 24), .load 12 true (.t 1), (some (some 23, true)), 70912, 21, []⟩,
   ⟨(some 25), .call 67 [(.t 24)] true, (some (some 23, true)), 71168, 22, []⟩,
   ⟨(some 26), .pick (.t 23) (.t 25) (.k (.bool false)), none, 71424, 23, []⟩,
   ⟨(some 27), .mv (.t 26), none, 71680, 24, []⟩,
   ⟨(some 28), .load 12 true (.t 1), (some (some 27, true)), 71936, 25, []⟩,
   ⟨(some 29), .call 68 [(.t 28)] true, (some (some 27, true)), 72192, 26, []⟩,
   ⟨(some 30), .pick (.t 27) (.t 29) (.k (.bool false)), none, 72448, 27, []⟩,
   ⟨(some 31), .mv (.t 30), none, 72704, 28, []⟩,
   ⟨(some 32), .faddr 9 (.t 1), (some (some 31, true)), 72960, 29, []⟩,
   ⟨(some 33), .load 2 true (.t 32), (some (some 31, true)), 73216, 30, []⟩,
   ⟨(some 34), .call 66 [(.t 33)] true, (some (some 31, true)), 73472, 31, []⟩,
   ⟨(some 35), .pick (.t 31) (.t 34) (.k (.bool false)), none, 73728, 32, []⟩,
   ⟨(some 36), .mv (.t 35), none, 73984, 33, []⟩,
   ⟨(some 37), .load 12 true (.t 1), (some (some 36, true)), 74240, 34, []⟩,
   ⟨(some 38), .call 70 [(.t 37)] true, (some (some 36, true)), 74496, 35, []⟩,
   ⟨(some 39), .faddr 9 (.t 1), (some (some 36, true)), 74752, 36, []⟩,
   ⟨(some 40), .load 2 true (.t 39), (some (some 36, true)), 75008, 37, []⟩,
   ⟨(some 41), .call 69 [(.t 38), (.t 40)] true, (some (some 36, true)), 75264, 38, []⟩,
   ⟨(some 42), .not (.t 41), (some (some 36, true)), 75520, 39, []⟩,
   ⟨(some 43), .pick (.t 36) (.t 42) (.k (.bool false)), none, 75776, 40, []⟩,
   ⟨(some 44), .mv (.t 43), none, 76032, 41, []⟩,
   ⟨(some 45), .load 12 true (.t 1), (some (some 44, true)), 76288, 42, []⟩,
   ⟨(some 46), .call 71 [(.t 45)] true, (some (some 44, true)), 76544, 43, []⟩,
   ⟨(some 47), .pick (.t 44) (.t 46) (.k (.bool false)), none, 76800, 44, []⟩,
   ⟨(some 2), .mv (.t 47), none, 77056, 45, []⟩])
 (.ret))⟩
/-- loop.example/g00849/laws.eqPg -/
def F30 : F := ⟨2, 15, [.t 4],
 .seq (.reg [⟨(some 2), .box (.t 0), none, 0, 0, []⟩,
   ⟨(some 3), .box (.t 1), none, 256, 1, []⟩,
   ⟨(some 4), .mv (.k (.bool false)), none, 512, 2, []⟩])
 (.seq (.seq (.reg [⟨(some 5), .faddr 0 (.t 2), none, 65536, 0, []⟩,
   ⟨(some 6), .load 1 false (.t 5), none, 65792, 1, []⟩,
   ⟨(some 7), .faddr 0 (.t 3), none, 66048, 2, []⟩,
   ⟨(some 8), .load 1 false (.t 7), none, 66304, 3, []⟩,
   ⟨(some 9), .bin .neq (.t 6) (.t 8), none, 66560, 4, []⟩])
 (.cond (.t 9)
  (.seq (.reg [⟨(some 4), .mv (.k (.bool false)), none, 131072, 0, []⟩])
  (.ret))
  (.skip)))
 (.seq (.seq (.reg [⟨(some 10), .faddr 1 (.t 2), none, 196608, 0, []⟩,
   ⟨(some 11), .load 1 false (.t 10), none, 196864, 1, []⟩,
   ⟨(some 12), .faddr 1 (.t 3), none, 197120, 2, []⟩,
   ⟨(some 13), .load 1 false (.t 12), none, 197376, 3, []⟩,
   ⟨(some 14), .bin .neq (.t 11) (.t 13), none, 197632, 4, []⟩])
 (.cond (.t 14)
  (.seq (.reg [⟨(some 4), .mv (.k (.bool false)), none, 262144, 0, []⟩])
  (.ret))
  (.skip)))
 (.seq (.reg [⟨(some 4), .mv (.k (.bool true)), none, 327680, 0, []⟩])
 (.ret))))⟩
/-- loop.example/g00849/laws.eqVer -/
def F31 : F := ⟨2, 15, [.t 4],
 .seq (.reg [⟨(some 2), .box (.t 0), none, 0, 0, []⟩,
   ⟨(some 3), .box (.t 1), none, 256, 1, []⟩,
   ⟨(some 4), .mv (.k (.bool false)), none, 512, 2, []⟩])
 (.seq (.seq (.reg [⟨(some 5), .faddr 0 (.t 2), none, 65536, 0, []⟩,
   ⟨(some 6), .load 1 false (.t 5), none, 65792, 1, []⟩,
   ⟨(some 7), .faddr 0 (.t 3), none, 66048, 2, []⟩,
   ⟨(some 8), .load 1 false (.t 7), none, 66304, 3, []⟩,
   ⟨(some 9), .bin .neq (.t 6) (.t 8), none, 66560, 4, []⟩])
 (.cond (.t 9)
  (.seq (.reg [⟨(some 4), .mv (.k (.bool false)), none, 131072, 0, []⟩])
  (.ret))
  (.skip)))
 (.seq (.seq (.reg [⟨(some 10), .faddr 1 (.t 2), none, 196608, 0, []⟩,
   ⟨(some 11), .load 1 false (.t 10), none, 196864, 1, []⟩,
   ⟨(some 12), .faddr 1 (.t 3), none, 197120, 2, []⟩,
   ⟨(some 13), .load 1 false (.t 12), none, 197376, 3, []⟩,
   ⟨(some 14), .bin .neq (.t 11) (.t 13), none, 197632, 4, []⟩])
 (.cond (.t 14)
  (.seq (.reg [⟨(some 4), .mv (.k (.bool false)), none, 262144, 0, []⟩])
  (.ret))
  (.skip)))
 (.seq (.reg [⟨(some 4), .mv (.k (.bool true)), none, 327680, 0, []⟩])
 (.ret))))⟩
/-- loop.example/g00849/laws.eqHeadS -/
def F32 : F := ⟨2, 27, [.t 4],
 .seq (.reg [⟨(some 4), .mv (.k (.bool false)), none, 0, 0, []⟩])
 (.seq (.seq (.reg [⟨(some 6), .mv (.t 0), none, 65536, 0, []⟩,
   ⟨(some 7), .len false (.t 6), none, 65792, 1, []⟩,
   ⟨(some 8), .mv (.t 1), none, 66048, 2, []⟩,
   ⟨(some 9), .len false (.t 8), none, 66304, 3, []⟩,
   ⟨(some 10), .bin .neq (.t 7) (.t 9), none, 66560, 4, []⟩])
 (.cond (.t 10)
  (.seq (.reg [⟨(some 4), .mv (.k (.bool false)), none, 131072, 0, []⟩])
  (.ret))
  (.skip)))
 (.seq (.seq (.reg [⟨(some 5), .mv (.k (.int .i64 0)), none, 196608, 0, []⟩])
 (.block 0 (.loop [0, 1, 5] []
  (.seq (.seq (.reg [⟨(some 11), .mv (.t 5), none, 262144, 0, []⟩,
    ⟨(some 12), .mv (.t 0), none, 262400, 1, []⟩,
    ⟨(some 13), .len false (.t 12), none, 262656, 2, []⟩,
    ⟨(some 14), .bin .lss (.t 11) (.t 13), none, 262912, 3, []⟩])
  (.cond (.t 14)
   (.skip)
   (.exit 0)))
  (.seq (.block 1 (.seq (.reg [⟨(some 17), .mv (.t 0), none, 393216, 0, []⟩,
    ⟨(some 18), .mv (.t 5), none, 393472, 1, []⟩,
    ⟨(some 19), .iaddr 5 (.t 17) (.t 18), none, 393728, 2, []⟩,
    ⟨(some 20), .load 5 true (.t 19), none, 393984, 3, []⟩,
    ⟨(some 21), .mv (.t 1), none, 394240, 4, []⟩,
    ⟨(some 22), .mv (.t 5), none, 394496, 5, []⟩,
    ⟨(some 23), .iaddr 5 (.t 21) (.t 22), none, 394752, 6, []⟩,
    ⟨(some 24), .load 5 true (.t 23), none, 395008, 7, []⟩,
    ⟨(some 25), .call 73 [(.t 20), (.t 24)] true, none, 395264, 8, []⟩,
    ⟨(some 26), .not (.t 25), none, 395520, 9, []⟩])
  (.cond (.t 26)
   (.seq (.reg [⟨(some 4), .mv (.k (.bool false)), none, 458752, 0, []⟩])
   (.ret))
   (.skip))))
  (.reg [⟨(some 15), .mv (.t 5), none, 327680, 0, []⟩,
    ⟨(some 16), .bin .add (.t 15) (.k (.int .i64 1)), none, 327936, 1, []⟩,
    ⟨(some 5), .mv (.t 16), none, 328192, 2, []⟩]))))))
 (.seq (.reg [⟨(some 4), .mv (.k (.bool true)), none, 524288, 0, []⟩])
 (.ret))))⟩
/-- loop.example/g00849/laws.eqLastS -/
def F33 : F := ⟨2, 27, [.t 4],
 .seq (.reg [⟨(some 4), .mv (.k (.bool false)), none, 0, 0, []⟩])
 (.seq (.seq (.reg [⟨(some 6), .mv (.t 0), none, 65536, 0, []⟩,
   ⟨(some 7), .len false (.t 6), none, 65792, 1, []⟩,
   ⟨(some 8), .mv (.t 1), none, 66048, 2, []⟩,
   ⟨(some 9), .len false (.t 8), none, 66304, 3, []⟩,
   ⟨(some 10), .bin .neq (.t 7) (.t 9), none, 66560, 4, []⟩])
 (.cond (.t 10)
  (.seq (.reg [⟨(some 4), .mv (.k (.bool false)), none, 131072, 0, []⟩])
  (.ret))
  (.skip)))
 (.seq (.seq (.reg [⟨(some 5), .mv (.k (.int .i64 0)), none, 196608, 0, []⟩])
 (.block 0 (.loop [0, 1, 5] []
  (.seq (.seq (.reg [⟨(some 11), .mv (.t 5), none, 262144, 0, []⟩,
    ⟨(some 12), .mv (.t 0), none, 262400, 1, []⟩,
    ⟨(some 13), .len false (.t 12), none, 262656, 2, []⟩,
    ⟨(some 14), .bin .lss (.t 11) (.t 13), none, 262912, 3, []⟩])
  (.cond (.t 14)
   (.skip)
   (.exit 0)))
  (.seq (.block 1 (.seq (.reg [⟨(some 17), .mv (.t 0), none, 393216, 0, []⟩,
    ⟨(some 18), .mv (.t 5), none, 393472, 1, []⟩,
    ⟨(some 19), .iaddr 4 (.t 17) (.t 18), none, 393728, 2, []⟩,
    ⟨(some 20), .load 4 true (.t 19), none, 393984, 3, []⟩,
    ⟨(some 21), .mv (.t 1), none, 394240, 4, []⟩,
    ⟨(some 22), .mv (.t 5), none, 394496, 5, []⟩,
    ⟨(some 23), .iaddr 4 (.t 21) (.t 22), none, 394752, 6, []⟩,
    ⟨(some 24), .load 4 true (.t 23), none, 395008, 7, []⟩,
    ⟨(some 25), .call 74 [(.t 20), (.t 24)] true, none, 395264, 8, []⟩,
    ⟨(some 26), .not (.t 25), none, 395520, 9, []⟩])
  (.cond (.t 26)
   (.seq (.reg [⟨(some 4), .mv (.k (.bool false)), none, 458752, 0, []⟩])
   (.ret))
   (.skip))))
  (.reg [⟨(some 15), .mv (.t 5), none, 327680, 0, []⟩,
    ⟨(some 16), .bin .add (.t 15) (.k (.int .i64 1)), none, 327936, 1, []⟩,
    ⟨(some 5), .mv (.t 16), none, 328192, 2, []⟩]))))))
 (.seq (.reg [⟨(some 4), .mv (.k (.bool true)), none, 524288, 0, []⟩])
 (.ret))))⟩
/-- loop.example/g00849/laws.eqEntryS -/
def F34 : F := ⟨2, 27, [.t 4],
 .seq (.reg [⟨(some 4), .mv (.k (.bool false)), none, 0, 0, []⟩])
 (.seq (.seq (.reg [⟨(some 6), .mv (.t 0), none, 65536, 0, []⟩,
   ⟨(some 7), .len false (.t 6), none, 65792, 1, []⟩,
   ⟨(some 8), .mv (.t 1), none, 66048, 2, []⟩,
   ⟨(some 9), .len false (.t 8), none, 66304, 3, []⟩,
   ⟨(some 10), .bin .neq (.t 7) (.t 9), none, 66560, 4, []⟩])
 (.cond (.t 10)
  (.seq (.reg [⟨(some 4), .mv (.k (.bool false)), none, 131072, 0, []⟩])
  (.ret))
  (.skip)))
 (.seq (.seq (.reg [⟨(some 5), .mv (.k (.int .i64 0)), none, 196608, 0, []⟩])
 (.block 0 (.loop [0, 1, 5] []
  (.seq (.seq (.reg [⟨(some 11), .mv (.t 5), none, 262144, 0, []⟩,
    ⟨(some 12), .mv (.t 0), none, 262400, 1, []⟩,
    ⟨(some 13), .len false (.t 12), none, 262656, 2, []⟩,
    ⟨(some 14), .bin .lss (.t 11) (.t 13), none, 262912, 3, []⟩])
  (.cond (.t 14)
   (.skip)
   (.exit 0)))
  (.seq (.block 1 (.seq (.reg [⟨(some 17), .mv (.t 0), none, 393216, 0, []⟩,
    ⟨(some 18), .mv (.t 5), none, 393472, 1, []⟩,
    ⟨(some 19), .iaddr 10 (.t 17) (.t 18), none, 393728, 2, []⟩,
    ⟨(some 20), .load 10 true (.t 19), none, 393984, 3, []⟩,
    ⟨(some 21), .mv (.t 1), none, 394240, 4, []⟩,
    ⟨(some 22), .mv (.t 5), none, 394496, 5, []⟩,
    ⟨(some 23), .iaddr 10 (.t 21) (.t 22), none, 394752, 6, []⟩,
    ⟨(some 24), .load 10 true (.t 23), none, 395008, 7, []⟩,
    ⟨(some 25), .call 75 [(.t 20), (.t 24)] true, none, 395264, 8, []⟩,
    ⟨(some 26), .not (.t 25), none, 395520, 9, []⟩])
  (.cond (.t 26)
   (.seq (.reg [⟨(some 4), .mv (.k (.bool false)), none, 458752, 0, []⟩])
   (.ret))
   (.skip))))
  (.reg [⟨(some 15), .mv (.t 5), none, 327680, 0, []⟩,
    ⟨(some 16), .bin .add (.t 15) (.k (.int .i64 1)), none, 327936, 1, []⟩,
    ⟨(some 5), .mv (.t 16), none, 328192, 2, []⟩]))))))
 (.seq (.reg [⟨(some 4), .mv (.k (.bool true)), none, 524288, 0, []⟩])
 (.ret))))⟩
/-- loop.example/g00849/laws.eqChunkS -/
def F35 : F := ⟨2, 27, [.t 4],
 .seq (.reg [⟨(some 4), .mv (.k (.bool false)), none, 0, 0, []⟩])
 (.seq (.seq (.reg [⟨(some 6), .mv (.t 0), none, 65536, 0, []⟩,
   ⟨(some 7), .len false (.t 6), none, 65792, 1, []⟩,
   ⟨(some 8), .mv (.t 1), none, 66048, 2, []⟩,
   ⟨(some 9), .len false (.t 8), none, 66304, 3, []⟩,
   ⟨(some 10), .bin .neq (.t 7) (.t 9), none, 66560, 4, []⟩])
 (.cond (.t 10)
  (.seq (.reg [⟨(some 4), .mv (.k (.bool false)), none, 131072, 0, []⟩])
  (.ret))
  (.skip)))
 (.seq (.seq (.reg [⟨(some 5), .mv (.k (.int .i64 0)), none, 196608, 0, []⟩])
 (.block 0 (.loop [0, 1, 5] []
  (.seq (.seq (.reg [⟨(some 11), .mv (.t 5), none, 262144, 0, []⟩,
    ⟨(some 12), .mv (.t 0), none, 262400, 1, []⟩,
    ⟨(some 13), .len false (.t 12), none, 262656, 2, []⟩,
    ⟨(some 14), .bin .lss (.t 11) (.t 13), none, 262912, 3, []⟩])
  (.cond (.t 14)
   (.skip)
   (.exit 0)))
  (.seq (.block 1 (.seq (.reg [⟨(some 17), .mv (.t 0), none, 393216, 0, []⟩,
    ⟨(some 18), .mv (.t 5), none, 393472, 1, []⟩,
    ⟨(some 19), .iaddr 6 (.t 17) (.t 18), none, 393728, 2, []⟩,
    ⟨(some 20), .load 6 true (.t 19), none, 393984, 3, []⟩,
    ⟨(some 21), .mv (.t 1), none, 394240, 4, []⟩,
    ⟨(some 22), .mv (.t 5), none, 394496, 5, []⟩,
    ⟨(some 23), .iaddr 6 (.t 21) (.t 22), none, 394752, 6, []⟩,
    ⟨(some 24), .load 6 true (.t 23), none, 395008, 7, []⟩,
    ⟨(some 25), .call 76 [(.t 20), (.t 24)] true, none, 395264, 8, []⟩,
    ⟨(some 26), .not (.t 25), none, 395520, 9, []⟩])
  (.cond (.t 26)
   (.seq (.reg [⟨(some 4), .mv (.k (.bool false)), none, 458752, 0, []⟩])
   (.ret))
   (.skip))))
  (.reg [⟨(some 15), .mv (.t 5), none, 327680, 0, []⟩,
    ⟨(some 16), .bin .add (.t 15) (.k (.int .i64 1)), none, 327936, 1, []⟩,
    ⟨(some 5), .mv (.t 16), none, 328192, 2, []⟩]))))))
 (.seq (.reg [⟨(some 4), .mv (.k (.bool true)), none, 524288, 0, []⟩])
 (.ret))))⟩
/-- loop.example/g00849/laws.markHeadS -/
def F36 : F := ⟨2, 51, [.t 4],
 .seq (.reg [⟨(some 4), .mv (.k (.int .i64 0)), none, 0, 0, []⟩])
 (.seq (.seq (.reg [⟨(some 5), .mv (.k (.int .i64 0)), none, 65536, 0, []⟩])
 (.block 0 (.loop [0, 1, 5] []
  (.seq (.seq (.reg [⟨(some 6), .mv (.t 5), none, 131072, 0, []⟩,
    ⟨(some 7), .mv (.t 0), none, 131328, 1, []⟩,
    ⟨(some 8), .len false (.t 7), none, 131584, 2, []⟩,
    ⟨(some 9), .bin .lss (.t 6) (.t 8), none, 131840, 3, []⟩])
  (.cond (.t 9)
   (.skip)
   (.exit 0)))
  (.seq (.block 1 (.seq (.reg [⟨(some 12), .mv (.t 0), none, 262144, 0, []⟩,
    ⟨(some 13), .mv (.t 5), none, 262400, 1, []⟩,
    ⟨(some 14), .mv (.t 1), none, 262656, 2, []⟩,
    ⟨(some 15), .call 77 [(.t 14)] true, none, 262912, 3, []⟩,
    ⟨(some 16), .iaddr 5 (.t 12) (.t 13), none, 263168, 4, []⟩,
    ⟨(some 17), .faddr 0 (.t 16), none, 263424, 5, []⟩,
    ⟨none, .store 1 (.t 17) (.t 15), none, 263680, 6, []⟩])
  (.seq (.reg [⟨(some 18), .mv (.t 1), none, 327680, 0, []⟩,
    ⟨(some 19), .bin .add (.t 18) (.k (.int .i64 1)), none, 327936, 1, []⟩,
    ⟨(some 1), .mv (.t 19), none, 328192, 2, []⟩])
  (.seq (.reg [⟨(some 20), .mv (.t 0), none, 393216, 0, []⟩,
    ⟨(some 21), .mv (.t 5), none, 393472, 1, []⟩,
    ⟨(some 22), .mv (.t 1), none, 393728, 2, []⟩,
    ⟨(some 23), .iaddr 5 (.t 20) (.t 21), none, 393984, 3, []⟩,
    ⟨(some 24), .faddr 1 (.t 23), none, 394240, 4, []⟩,
    ⟨(some 25), .faddr 0 (.t 24), none, 394496, 5, []⟩,
    ⟨none, .store 1 (.t 25) (.t 22), none, 394752, 6, []⟩])
  (.seq (.reg [⟨(some 26), .mv (.t 1), none, 458752, 0, []⟩,
    ⟨(some 27), .bin .add (.t 26) (.k (.int .i64 1)), none, 459008, 1, []⟩,
    ⟨(some 1), .mv (.t 27), none, 459264, 2, []⟩])
  (.seq (.reg [⟨(some 28), .mv (.t 0), none, 524288, 0, []⟩,
    ⟨(some 29), .mv (.t 5), none, 524544, 1, []⟩,
    ⟨(some 30), .mv (.t 1), none, 524800, 2, []⟩,
    ⟨(some 31), .iaddr 5 (.t 28) (.t 29), none, 525056, 3, []⟩,
    ⟨(some 32), .faddr 1 (.t 31), none, 525312, 4, []⟩,
    ⟨(some 33), .faddr 1 (.t 32), none, 525568, 5, []⟩,
    ⟨none, .store 1 (.t 33) (.t 30), none, 525824, 6, []⟩])
  (.seq (.reg [⟨(some 34), .mv (.t 1), none, 589824, 0, []⟩,
    ⟨(some 35), .bin .add (.t 34) (.k (.int .i64 1)), none, 590080, 1, []⟩,
    ⟨(some 1), .mv (.t 35), none, 590336, 2, []⟩])
  (.seq (.reg [⟨(some 36), .mv (.t 0), none, 655360, 0, []⟩,
    ⟨(some 37), .mv (.t 5), none, 655616, 1, []⟩,
    ⟨(some 38), .mv (.t 1), none, 655872, 2, []⟩,
    ⟨(some 39), .iaddr 5 (.t 36) (.t 37), none, 656128, 3, []⟩,
    ⟨(some 40), .faddr 3 (.t 39), none, 656384, 4, []⟩,
    ⟨none, .store 1 (.t 40) (.t 38), none, 656640, 5, []⟩])
  (.seq (.reg [⟨(some 41), .mv (.t 1), none, 720896, 0, []⟩,
    ⟨(some 42), .bin .add (.t 41) (.k (.int .i64 1)), none, 721152, 1, []⟩,
    ⟨(some 1), .mv (.t 42), none, 721408, 2, []⟩])
  (.seq (.reg [⟨(some 43), .mv (.t 0), none, 786432, 0, []⟩,
    ⟨(some 44), .mv (.t 5), none, 786688, 1, []⟩,
    ⟨(some 45), .mv (.t 1), none, 786944, 2, []⟩,
    ⟨(some 46), .iaddr 5 (.t 43) (.t 44), none, 787200, 3, []⟩,
    ⟨(some 47), .faddr 4 (.t 46), none, 787456, 4, []⟩,
    ⟨none, .store 1 (.t 47) (.t 45), none, 787712, 5, []⟩])
  (.reg [⟨(some 48), .mv (.t 1), none, 851968, 0, []⟩,
    ⟨(some 49), .bin .add (.t 48) (.k (.int .i64 1)), none, 852224, 1, []⟩,
    ⟨(some 1), .mv (.t 49), none, 852480, 2, []⟩])))))))))))
  (.reg [⟨(some 10), .mv (.t 5), none, 196608, 0, []⟩,
    ⟨(some 11), .bin .add (.t 10) (.k (.int .i64 1)), none, 196864, 1, []⟩,
    ⟨(some 5), .mv (.t 11), none, 197120, 2, []⟩]))))))
 (.seq (.reg [⟨(some 50), .mv (.t 1), none, 917504, 0, []⟩,
   ⟨(some 4), .mv (.t 50), none, 917760, 1, []⟩])
 (.ret)))⟩
/-- loop.example/g00849/laws.markLastS -/
def F37 : F := ⟨2, 43, [.t 4],
 .seq (.reg [⟨(some 4), .mv (.k (.int .i64 0)), none, 0, 0, []⟩])
 (.seq (.seq (.reg [⟨(some 5), .mv (.k (.int .i64 0)), none, 65536, 0, []⟩])
 (.block 0 (.loop [0, 1, 5] []
  (.seq (.seq (.reg [⟨(some 6), .mv (.t 5), none, 131072, 0, []⟩,
    ⟨(some 7), .mv (.t 0), none, 131328, 1, []⟩,
    ⟨(some 8), .len false (.t 7), none, 131584, 2, []⟩,
    ⟨(some 9), .bin .lss (.t 6) (.t 8), none, 131840, 3, []⟩])
  (.cond (.t 9)
   (.skip)
   (.exit 0)))
  (.seq (.block 1 (.seq (.reg [⟨(some 12), .mv (.t 0), none, 262144, 0, []⟩,
    ⟨(some 13), .mv (.t 5), none, 262400, 1, []⟩,
    ⟨(some 14), .mv (.t 1), none, 262656, 2, []⟩,
    ⟨(some 15), .iaddr 4 (.t 12) (.t 13), none, 262912, 3, []⟩,
    ⟨(some 16), .faddr 0 (.t 15), none, 263168, 4, []⟩,
    ⟨none, .store 1 (.t 16) (.t 14), none, 263424, 5, []⟩])
  (.seq (.reg [⟨(some 17), .mv (.t 1), none, 327680, 0, []⟩,
    ⟨(some 18), .bin .add (.t 17) (.k (.int .i64 1)), none, 327936, 1, []⟩,
    ⟨(some 1), .mv (.t 18), none, 328192, 2, []⟩])
  (.seq (.reg [⟨(some 19), .mv (.t 0), none, 393216, 0, []⟩,
    ⟨(some 20), .mv (.t 5), none, 393472, 1, []⟩,
    ⟨(some 21), .mv (.t 1), none, 393728, 2, []⟩,
    ⟨(some 22), .iaddr 4 (.t 19) (.t 20), none, 393984, 3, []⟩,
    ⟨(some 23), .faddr 1 (.t 22), none, 394240, 4, []⟩,
    ⟨none, .store 1 (.t 23) (.t 21), none, 394496, 5, []⟩])
  (.seq (.reg [⟨(some 24), .mv (.t 1), none, 458752, 0, []⟩,
    ⟨(some 25), .bin .add (.t 24) (.k (.int .i64 1)), none, 459008, 1, []⟩,
    ⟨(some 1), .mv (.t 25), none, 459264, 2, []⟩])
  (.seq (.reg [⟨(some 26), .mv (.t 0), none, 524288, 0, []⟩,
    ⟨(some 27), .mv (.t 5), none, 524544, 1, []⟩,
    ⟨(some 28), .mv (.t 1), none, 524800, 2, []⟩,
    ⟨(some 29), .iaddr 4 (.t 26) (.t 27), none, 525056, 3, []⟩,
    ⟨(some 30), .faddr 2 (.t 29), none, 525312, 4, []⟩,
    ⟨(some 31), .faddr 0 (.t 30), none, 525568, 5, []⟩,
    ⟨none, .store 1 (.t 31) (.t 28), none, 525824, 6, []⟩])
  (.seq (.reg [⟨(some 32), .mv (.t 1), none, 589824, 0, []⟩,
    ⟨(some 33), .bin .add (.t 32) (.k (.int .i64 1)), none, 590080, 1, []⟩,
    ⟨(some 1), .mv (.t 33), none, 590336, 2, []⟩])
  (.seq (.reg [⟨(some 34), .mv (.t 0), none, 655360, 0, []⟩,
    ⟨(some 35), .mv (.t 5), none, 655616, 1, []⟩,
    ⟨(some 36), .mv (.t 1), none, 655872, 2, []⟩,
    ⟨(some 37), .iaddr 4 (.t 34) (.t 35), none, 656128, 3, []⟩,
    ⟨(some 38), .faddr 2 (.t 37), none, 656384, 4, []⟩,
    ⟨(some 39), .faddr 1 (.t 38), none, 656640, 5, []⟩,
    ⟨none, .store 1 (.t 39) (.t 36), none, 656896, 6, []⟩])
  (.reg [⟨(some 40), .mv (.t 1), none, 720896, 0, []⟩,
    ⟨(some 41), .bin .add (.t 40) (.k (.int .i64 1)), none, 721152, 1, []⟩,
    ⟨(some 1), .mv (.t 41), none, 721408, 2, []⟩])))))))))
  (.reg [⟨(some 10), .mv (.t 5), none, 196608, 0, []⟩,
    ⟨(some 11), .bin .add (.t 10) (.k (.int .i64 1)), none, 196864, 1, []⟩,
    ⟨(some 5), .mv (.t 11), none, 197120, 2, []⟩]))))))
 (.seq (.reg [⟨(some 42), .mv (.t 1), none, 786432, 0, []⟩,
   ⟨(some 4), .mv (.t 42), none, 786688, 1, []⟩])
 (.ret)))⟩
/-- loop.example/g00849/laws.markEntryS -/
def F38 : F := ⟨2, 92, [.t 4],
 .seq (.reg [⟨(some 4), .mv (.k (.int .i64 0)), none, 0, 0, []⟩])
 (.seq (.seq (.reg [⟨(some 5), .mv (.k (.int .i64 0)), none, 65536, 0, []⟩])
 (.block 0 (.loop [0, 1, 5] []
  (.seq (.seq (.reg [⟨(some 6), .mv (.t 5), none, 131072, 0, []⟩,
    ⟨(some 7), .mv (.t 0), none, 131328, 1, []⟩,
    ⟨(some 8), .len false (.t 7), none, 131584, 2, []⟩,
    ⟨(some 9), .bin .lss (.t 6) (.t 8), none, 131840, 3, []⟩])
  (.cond (.t 9)
   (.skip)
   (.exit 0)))
  (.seq (.block 1 (.seq (.reg [⟨(some 12), .mv (.t 0), none, 262144, 0, []⟩,
    ⟨(some 13), .mv (.t 5), none, 262400, 1, []⟩,
    ⟨(some 14), .mv (.t 1), none, 262656, 2, []⟩,
    ⟨(some 15), .iaddr 10 (.t 12) (.t 13), none, 262912, 3, []⟩,
    ⟨(some 16), .faddr 0 (.t 15), none, 263168, 4, []⟩,
    ⟨(some 17), .faddr 0 (.t 16), none, 263424, 5, []⟩,
    ⟨none, .store 1 (.t 17) (.t 14), none, 263680, 6, []⟩])
  (.seq (.reg [⟨(some 18), .mv (.t 1), none, 327680, 0, []⟩,
    ⟨(some 19), .bin .add (.t 18) (.k (.int .i64 1)), none, 327936, 1, []⟩,
    ⟨(some 1), .mv (.t 19), none, 328192, 2, []⟩])
  (.seq (.reg [⟨(some 20), .mv (.t 0), none, 393216, 0, []⟩,
    ⟨(some 21), .mv (.t 5), none, 393472, 1, []⟩,
    ⟨(some 22), .mv (.t 1), none, 393728, 2, []⟩,
    ⟨(some 23), .iaddr 10 (.t 20) (.t 21), none, 393984, 3, []⟩,
    ⟨(some 24), .faddr 0 (.t 23), none, 394240, 4, []⟩,
    ⟨(some 25), .faddr 1 (.t 24), none, 394496, 5, []⟩,
    ⟨none, .store 1 (.t 25) (.t 22), none, 394752, 6, []⟩])
  (.seq (.reg [⟨(some 26), .mv (.t 1), none, 458752, 0, []⟩,
    ⟨(some 27), .bin .add (.t 26) (.k (.int .i64 1)), none, 459008, 1, []⟩,
    ⟨(some 1), .mv (.t 27), none, 459264, 2, []⟩])
  (.seq (.reg [⟨(some 28), .mv (.t 0), none, 524288, 0, []⟩,
    ⟨(some 29), .mv (.t 5), none, 524544, 1, []⟩,
    ⟨(some 30), .mv (.t 1), none, 524800, 2, []⟩,
    ⟨(some 31), .iaddr 10 (.t 28) (.t 29), none, 525056, 3, []⟩,
    ⟨(some 32), .faddr 2 (.t 31), none, 525312, 4, []⟩,
    ⟨(some 33), .faddr 0 (.t 32), none, 525568, 5, []⟩,
    ⟨none, .store 1 (.t 33) (.t 30), none, 525824, 6, []⟩])
  (.seq (.reg [⟨(some 34), .mv (.t 1), none, 589824, 0, []⟩,
    ⟨(some 35), .bin .add (.t 34) (.k (.int .i64 1)), none, 590080, 1, []⟩,
    ⟨(some 1), .mv (.t 35), none, 590336, 2, []⟩])
  (.seq (.reg [⟨(some 36), .mv (.t 0), none, 655360, 0, []⟩,
    ⟨(some 37), .mv (.t 5), none, 655616, 1, []⟩,
    ⟨(some 38), .mv (.t 1), none, 655872, 2, []⟩,
    ⟨(some 39), .iaddr 10 (.t 36) (.t 37), none, 656128, 3, []⟩,
    ⟨(some 40), .faddr 2 (.t 39), none, 656384, 4, []⟩,
    ⟨(some 41), .faddr 1 (.t 40), none, 656640, 5, []⟩,
    ⟨none, .store 1 (.t 41) (.t 38), none, 656896, 6, []⟩])
  (.seq (.reg [⟨(some 42), .mv (.t 1), none, 720896, 0, []⟩,
    ⟨(some 43), .bin .add (.t 42) (.k (.int .i64 1)), none, 721152, 1, []⟩,
    ⟨(some 1), .mv (.t 43), none, 721408, 2, []⟩])
  (.seq (.reg [⟨(some 44), .mv (.t 0), none, 786432, 0, []⟩,
    ⟨(some 45), .mv (.t 5), none, 786688, 1, []⟩,
    ⟨(some 46), .mv (.t 1), none, 786944, 2, []⟩,
    ⟨(some 47), .call 77 [(.t 46)] true, none, 787200, 3, []⟩,
    ⟨(some 48), .iaddr 10 (.t 44) (.t 45), none, 787456, 4, []⟩,
    ⟨(some 49), .faddr 4 (.t 48), none, 787712, 5, []⟩,
    ⟨none, .store 1 (.t 49) (.t 47), none, 787968, 6, []⟩])
  (.seq (.reg [⟨(some 50), .mv (.t 1), none, 851968, 0, []⟩,
    ⟨(some 51), .bin .add (.t 50) (.k (.int .i64 1)), none, 852224, 1, []⟩,
    ⟨(some 1), .mv (.t 51), none, 852480, 2, []⟩])
  (.seq (.reg [⟨(some 52), .mv (.t 0), none, 917504, 0, []⟩,
    ⟨(some 53), .mv (.t 5), none, 917760, 1, []⟩,
    ⟨(some 54), .mv (.t 1), none, 918016, 2, []⟩,
    ⟨(some 55), .bin .rem (.t 54) (.k (.int .i64 3)), none, 918272, 3, []⟩,
    ⟨(some 56), .bin .eql (.t 55) (.k (.int .i64 0)), none, 918528, 4, []⟩,
    ⟨(some 57), .iaddr 10 (.t 52) (.t 53), none, 918784, 5, []⟩,
    ⟨(some 58), .faddr 5 (.t 57), none, 919040, 6, []⟩,
    ⟨none, .store 1 (.t 58) (.t 56), none, 919296, 7, []⟩])
  (.seq (.reg [⟨(some 59), .mv (.t 1), none, 983040, 0, []⟩,
    ⟨(some 60), .bin .add (.t 59) (.k (.int .i64 1)), none, 983296, 1, []⟩,
    ⟨(some 1), .mv (.t 60), none, 983552, 2, []⟩])
  (.seq (.reg [⟨(some 61), .mv (.t 0), none, 1048576, 0, []⟩,
    ⟨(some 62), .mv (.t 5), none, 1048832, 1, []⟩,
    ⟨(some 63), .mv (.t 1), none, 1049088, 2, []⟩,
    ⟨(some 64), .iaddr 10 (.t 61) (.t 62), none, 1049344, 3, []⟩,
    ⟨(some 65), .faddr 6 (.t 64), none, 1049600, 4, []⟩,
    ⟨none, .store 1 (.t 65) (.t 63), none, 1049856, 5, []⟩])
  (.seq (.reg [⟨(some 66), .mv (.t 1), none, 1114112, 0, []⟩,
    ⟨(some 67), .bin .add (.t 66) (.k (.int .i64 1)), none, 1114368, 1, []⟩,
    ⟨(some 1), .mv (.t 67), none, 1114624, 2, []⟩])
  (.seq (.reg [⟨(some 68), .mv (.t 0), none, 1179648, 0, []⟩,
    ⟨(some 69), .mv (.t 5), none, 1179904, 1, []⟩,
    ⟨(some 70), .mv (.t 1), none, 1180160, 2, []⟩,
    ⟨(some 71), .iaddr 10 (.t 68) (.t 69), none, 1180416, 3, []⟩,
    ⟨(some 72), .faddr 7 (.t 71), none, 1180672, 4, []⟩,
    ⟨none, .store 1 (.t 72) (.t 70), none, 1180928, 5, []⟩])
  (.seq (.reg [⟨(some 73), .mv (.t 1), none, 1245184, 0, []⟩,
    ⟨(some 74), .bin .add (.t 73) (.k (.int .i64 1)), none, 1245440, 1, []⟩,
    ⟨(some 1), .mv (.t 74), none, 1245696, 2, []⟩])
  (.seq (.reg [⟨(some 75), .mv (.t 0), none, 1310720, 0, []⟩,
    ⟨(some 76), .mv (.t 5), none, 1310976, 1, []⟩,
    ⟨(some 77), .mv (.t 1), none, 1311232, 2, []⟩,
    ⟨(some 78), .iaddr 10 (.t 75) (.t 76), none, 1311488, 3, []⟩,
    ⟨(some 79), .faddr 8 (.t 78), none, 1311744, 4, []⟩,
    ⟨(some 80), .faddr 0 (.t 79), none, 1312000, 5, []⟩,
    ⟨none, .store 1 (.t 80) (.t 77), none, 1312256, 6, []⟩])
  (.seq (.reg [⟨(some 81), .mv (.t 1), none, 1376256, 0, []⟩,
    ⟨(some 82), .bin .add (.t 81) (.k (.int .i64 1)), none, 1376512, 1, []⟩,
    ⟨(some 1), .mv (.t 82), none, 1376768, 2, []⟩])
  (.seq (.reg [⟨(some 83), .mv (.t 0), none, 1441792, 0, []⟩,
    ⟨(some 84), .mv (.t 5), none, 1442048, 1, []⟩,
    ⟨(some 85), .mv (.t 1), none, 1442304, 2, []⟩,
    ⟨(some 86), .iaddr 10 (.t 83) (.t 84), none, 1442560, 3, []⟩,
    ⟨(some 87), .faddr 8 (.t 86), none, 1442816, 4, []⟩,
    ⟨(some 88), .faddr 1 (.t 87), none, 1443072, 5, []⟩,
    ⟨none, .store 1 (.t 88) (.t 85), none, 1443328, 6, []⟩])
  (.reg [⟨(some 89), .mv (.t 1), none, 1507328, 0, []⟩,
    ⟨(some 90), .bin .add (.t 89) (.k (.int .i64 1)), none, 1507584, 1, []⟩,
    ⟨(some 1), .mv (.t 90), none, 1507840, 2, []⟩])))))))))))))))))))))
  (.reg [⟨(some 10), .mv (.t 5), none, 196608, 0, []⟩,
    ⟨(some 11), .bin .add (.t 10) (.k (.int .i64 1)), none, 196864, 1, []⟩,
    ⟨(some 5), .mv (.t 11), none, 197120, 2, []⟩]))))))
 (.seq (.reg [⟨(some 91), .mv (.t 1), none, 1572864, 0, []⟩,
   ⟨(some 4), .mv (.t 91), none, 1573120, 1, []⟩])
 (.ret)))⟩
/-- loop.example/g00849/laws.markChunkS -/
def F39 : F := ⟨2, 59, [.t 4],
 .seq (.reg [⟨(some 4), .mv (.k (.int .i64 0)), none, 0, 0, []⟩])
 (.seq (.seq (.reg [⟨(some 5), .mv (.k (.int .i64 0)), none, 65536, 0, []⟩])
 (.block 0 (.loop [0, 1, 5] []
  (.seq (.seq (.reg [⟨(some 6), .mv (.t 5), none, 131072, 0, []⟩,
    ⟨(some 7), .mv (.t 0), none, 131328, 1, []⟩,
    ⟨(some 8), .len false (.t 7), none, 131584, 2, []⟩,
    ⟨(some 9), .bin .lss (.t 6) (.t 8), none, 131840, 3, []⟩])
  (.cond (.t 9)
   (.skip)
   (.exit 0)))
  (.seq (.block 1 (.seq (.reg [⟨(some 12), .mv (.t 0), none, 262144, 0, []⟩,
    ⟨(some 13), .mv (.t 5), none, 262400, 1, []⟩,
    ⟨(some 14), .mv (.t 1), none, 262656, 2, []⟩,
    ⟨(some 15), .call 77 [(.t 14)] true, none, 262912, 3, []⟩,
    ⟨(some 16), .iaddr 6 (.t 12) (.t 13), none, 263168, 4, []⟩,
    ⟨(some 17), .faddr 0 (.t 16), none, 263424, 5, []⟩,
    ⟨none, .store 1 (.t 17) (.t 15), none, 263680, 6, []⟩])
  (.seq (.reg [⟨(some 18), .mv (.t 1), none, 327680, 0, []⟩,
    ⟨(some 19), .bin .add (.t 18) (.k (.int .i64 1)), none, 327936, 1, []⟩,
    ⟨(some 1), .mv (.t 19), none, 328192, 2, []⟩])
  (.seq (.reg [⟨(some 20), .mv (.t 0), none, 393216, 0, []⟩,
    ⟨(some 21), .mv (.t 5), none, 393472, 1, []⟩,
    ⟨(some 22), .mv (.t 1), none, 393728, 2, []⟩,
    ⟨(some 23), .iaddr 6 (.t 20) (.t 21), none, 393984, 3, []⟩,
    ⟨(some 24), .faddr 1 (.t 23), none, 394240, 4, []⟩,
    ⟨(some 25), .faddr 0 (.t 24), none, 394496, 5, []⟩,
    ⟨none, .store 1 (.t 25) (.t 22), none, 394752, 6, []⟩])
  (.seq (.reg [⟨(some 26), .mv (.t 1), none, 458752, 0, []⟩,
    ⟨(some 27), .bin .add (.t 26) (.k (.int .i64 1)), none, 459008, 1, []⟩,
    ⟨(some 1), .mv (.t 27), none, 459264, 2, []⟩])
  (.seq (.reg [⟨(some 28), .mv (.t 0), none, 524288, 0, []⟩,
    ⟨(some 29), .mv (.t 5), none, 524544, 1, []⟩,
    ⟨(some 30), .mv (.t 1), none, 524800, 2, []⟩,
    ⟨(some 31), .iaddr 6 (.t 28) (.t 29), none, 525056, 3, []⟩,
    ⟨(some 32), .faddr 1 (.t 31), none, 525312, 4, []⟩,
    ⟨(some 33), .faddr 1 (.t 32), none, 525568, 5, []⟩,
    ⟨none, .store 1 (.t 33) (.t 30), none, 525824, 6, []⟩])
  (.seq (.reg [⟨(some 34), .mv (.t 1), none, 589824, 0, []⟩,
    ⟨(some 35), .bin .add (.t 34) (.k (.int .i64 1)), none, 590080, 1, []⟩,
    ⟨(some 1), .mv (.t 35), none, 590336, 2, []⟩])
  (.seq (.reg [⟨(some 36), .mv (.t 0), none, 655360, 0, []⟩,
    ⟨(some 37), .mv (.t 5), none, 655616, 1, []⟩,
    ⟨(some 38), .mv (.t 1), none, 655872, 2, []⟩,
    ⟨(some 39), .iaddr 6 (.t 36) (.t 37), none, 656128, 3, []⟩,
    ⟨(some 40), .faddr 3 (.t 39), none, 656384, 4, []⟩,
    ⟨none, .store 1 (.t 40) (.t 38), none, 656640, 5, []⟩])
  (.seq (.reg [⟨(some 41), .mv (.t 1), none, 720896, 0, []⟩,
    ⟨(some 42), .bin .add (.t 41) (.k (.int .i64 1)), none, 721152, 1, []⟩,
    ⟨(some 1), .mv (.t 42), none, 721408, 2, []⟩])
  (.seq (.reg [⟨(some 43), .mv (.t 0), none, 786432, 0, []⟩,
    ⟨(some 44), .mv (.t 5), none, 786688, 1, []⟩,
    ⟨(some 45), .mv (.t 1), none, 786944, 2, []⟩,
    ⟨(some 46), .iaddr 6 (.t 43) (.t 44), none, 787200, 3, []⟩,
    ⟨(some 47), .faddr 4 (.t 46), none, 787456, 4, []⟩,
    ⟨none, .store 1 (.t 47) (.t 45), none, 787712, 5, []⟩])
  (.seq (.reg [⟨(some 48), .mv (.t 1), none, 851968, 0, []⟩,
    ⟨(some 49), .bin .add (.t 48) (.k (.int .i64 1)), none, 852224, 1, []⟩,
    ⟨(some 1), .mv (.t 49), none, 852480, 2, []⟩])
  (.seq (.reg [⟨(some 50), .mv (.t 0), none, 917504, 0, []⟩,
    ⟨(some 51), .mv (.t 5), none, 917760, 1, []⟩,
    ⟨(some 52), .mv (.t 1), none, 918016, 2, []⟩,
    ⟨(some 53), .call 77 [(.t 52)] true, none, 918272, 3, []⟩,
    ⟨(some 54), .iaddr 6 (.t 50) (.t 51), none, 918528, 4, []⟩,
    ⟨(some 55), .faddr 5 (.t 54), none, 918784, 5, []⟩,
    ⟨none, .store 1 (.t 55) (.t 53), none, 919040, 6, []⟩])
  (.reg [⟨(some 56), .mv (.t 1), none, 983040, 0, []⟩,
    ⟨(some 57), .bin .add (.t 56) (.k (.int .i64 1)), none, 983296, 1, []⟩,
    ⟨(some 1), .mv (.t 57), none, 983552, 2, []⟩])))))))))))))
  (.reg [⟨(some 10), .mv (.t 5), none, 196608, 0, []⟩,
    ⟨(some 11), .bin .add (.t 10) (.k (.int .i64 1)), none, 196864, 1, []⟩,
    ⟨(some 5), .mv (.t 11), none, 197120, 2, []⟩]))))))
 (.seq (.reg [⟨(some 58), .mv (.t 1), none, 1048576, 0, []⟩,
   ⟨(some 4), .mv (.t 58), none, 1048832, 1, []⟩])
 (.ret)))⟩
/-- loop.example/g00849/laws.heldHeadS -/
def F40 : F := ⟨2, 61, [.t 4],
 .seq (.reg [⟨(some 4), .mv (.k (.int .i64 0)), none, 0, 0, []⟩])
 (.seq (.seq (.reg [⟨(some 5), .mv (.k (.int .i64 0)), none, 65536, 0, []⟩])
 (.block 0 (.loop [0, 1, 5] []
  (.seq (.seq (.reg [⟨(some 6), .mv (.t 5), none, 131072, 0, []⟩,
    ⟨(some 7), .mv (.t 0), none, 131328, 1, []⟩,
    ⟨(some 8), .len false (.t 7), none, 131584, 2, []⟩,
    ⟨(some 9), .bin .lss (.t 6) (.t 8), none, 131840, 3, []⟩])
  (.cond (.t 9)
   (.skip)
   (.exit 0)))
  (.seq (.block 1 (.seq (.seq (.reg [⟨(some 12), .mv (.t 0), none, 262144, 0, []⟩,
    ⟨(some 13), .mv (.t 5), none, 262400, 1, []⟩,
    ⟨(some 14), .iaddr 5 (.t 12) (.t 13), none, 262656, 2, []⟩,
    ⟨(some 15), .faddr 0 (.t 14), none, 262912, 3, []⟩,
    ⟨(some 16), .load 1 false (.t 15), none, 263168, 4, []⟩,
    ⟨(some 17), .mv (.t 1), none, 263424, 5, []⟩,
    ⟨(some 18), .call 77 [(.t 17)] true, none, 263680, 6, []⟩,
    ⟨(some 19), .bin .neq (.t 16) (.t 18), none, 263936, 7, []⟩])
  (.cond (.t 19)
   (.seq (.reg [⟨(some 4), .mv (.k (.int .i64 (-1))), none, 327680, 0, []⟩])
   (.ret))
   (.skip)))
  (.seq (.reg [⟨(some 20), .mv (.t 1), none, 393216, 0, []⟩,
    ⟨(some 21), .bin .add (.t 20) (.k (.int .i64 1)), none, 393472, 1, []⟩,
    ⟨(some 1), .mv (.t 21), none, 393728, 2, []⟩])
  (.seq (.seq (.reg [⟨(some 22), .mv (.t 0), none, 458752, 0, []⟩,
    ⟨(some 23), .mv (.t 5), none, 459008, 1, []⟩,
    ⟨(some 24), .iaddr 5 (.t 22) (.t 23), none, 459264, 2, []⟩,
    ⟨(some 25), .faddr 1 (.t 24), none, 459520, 3, []⟩,
    ⟨(some 26), .faddr 0 (.t 25), none, 459776, 4, []⟩,
    ⟨(some 27), .load 1 false (.t 26), none, 460032, 5, []⟩,
    ⟨(some 28), .mv (.t 1), none, 460288, 6, []⟩,
    ⟨(some 29), .bin .neq (.t 27) (.t 28), none, 460544, 7, []⟩])
  (.cond (.t 29)
   (.seq (.reg [⟨(some 4), .mv (.k (.int .i64 (-1))), none, 524288, 0, []⟩])
   (.ret))
   (.skip)))
  (.seq (.reg [⟨(some 30), .mv (.t 1), none, 589824, 0, []⟩,
    ⟨(some 31), .bin .add (.t 30) (.k (.int .i64 1)), none, 590080, 1, []⟩,
    ⟨(some 1), .mv (.t 31), none, 590336, 2, []⟩])
  (.seq (.seq (.reg [⟨(some 32), .mv (.t 0), none, 655360, 0, []⟩,
    ⟨(some 33), .mv (.t 5), none, 655616, 1, []⟩,
    ⟨(some 34), .iaddr 5 (.t 32) (.t 33), none, 655872, 2, []⟩,
    ⟨(some 35), .faddr 1 (.t 34), none, 656128, 3, []⟩,
    ⟨(some 36), .faddr 1 (.t 35), none, 656384, 4, []⟩,
    ⟨(some 37), .load 1 false (.t 36), none, 656640, 5, []⟩,
    ⟨(some 38), .mv (.t 1), none, 656896, 6, []⟩,
    ⟨(some 39), .bin .neq (.t 37) (.t 38), none, 657152, 7, []⟩])
  (.cond (.t 39)
   (.seq (.reg [⟨(some 4), .mv (.k (.int .i64 (-1))), none, 720896, 0, []⟩])
   (.ret))
   (.skip)))
  (.seq (.reg [⟨(some 40), .mv (.t 1), none, 786432, 0, []⟩,
    ⟨(some 41), .bin .add (.t 40) (.k (.int .i64 1)), none, 786688, 1, []⟩,
    ⟨(some 1), .mv (.t 41), none, 786944, 2, []⟩])
  (.seq (.seq (.reg [⟨(some 42), .mv (.t 0), none, 851968, 0, []⟩,
    ⟨(some 43), .mv (.t 5), none, 852224, 1, []⟩,
    ⟨(some 44), .iaddr 5 (.t 42) (.t 43), none, 852480, 2, []⟩,
    ⟨(some 45), .faddr 3 (.t 44), none, 852736, 3, []⟩,
    ⟨(some 46), .load 1 false (.t 45), none, 852992, 4, []⟩,
    ⟨(some 47), .mv (.t 1), none, 853248, 5, []⟩,
    ⟨(some 48), .bin .neq (.t 46) (.t 47), none, 853504, 6, []⟩])
  (.cond (.t 48)
   (.seq (.reg [⟨(some 4), .mv (.k (.int .i64 (-1))), none, 917504, 0, []⟩])
   (.ret))
   (.skip)))
  (.seq (.reg [⟨(some 49), .mv (.t 1), none, 983040, 0, []⟩,
    ⟨(some 50), .bin .add (.t 49) (.k (.int .i64 1)), none, 983296, 1, []⟩,
    ⟨(some 1), .mv (.t 50), none, 983552, 2, []⟩])
  (.seq (.seq (.reg [⟨(some 51), .mv (.t 0), none, 1048576, 0, []⟩,
    ⟨(some 52), .mv (.t 5), none, 1048832, 1, []⟩,
    ⟨(some 53), .iaddr 5 (.t 51) (.t 52), none, 1049088, 2, []⟩,
    ⟨(some 54), .faddr 4 (.t 53), none, 1049344, 3, []⟩,
    ⟨(some 55), .load 1 false (.t 54), none, 1049600, 4, []⟩,
    ⟨(some 56), .mv (.t 1), none, 1049856, 5, []⟩,
    ⟨(some 57), .bin .neq (.t 55) (.t 56), none, 1050112, 6, []⟩])
  (.cond (.t 57)
   (.seq (.reg [⟨(some 4), .mv (.k (.int .i64 (-1))), none, 1114112, 0, []⟩])
   (.ret))
   (.skip)))
  (.reg [⟨(some 58), .mv (.t 1), none, 1179648, 0, []⟩,
    ⟨(some 59), .bin .add (.t 58) (.k (.int .i64 1)), none, 1179904, 1, []⟩,
    ⟨(some 1), .mv (.t 59), none, 1180160, 2, []⟩])))))))))))
  (.reg [⟨(some 10), .mv (.t 5), none, 196608, 0, []⟩,
    ⟨(some 11), .bin .add (.t 10) (.k (.int .i64 1)), none, 196864, 1, []⟩,
    ⟨(some 5), .mv (.t 11), none, 197120, 2, []⟩]))))))
 (.seq (.reg [⟨(some 60), .mv (.t 1), none, 1245184, 0, []⟩,
   ⟨(some 4), .mv (.t 60), none, 1245440, 1, []⟩])
 (.ret)))⟩
/-- loop.example/g00849/laws.heldLastS -/
def F41 : F := ⟨2, 51, [.t 4],
 .seq (.reg [⟨(some 4), .mv (.k (.int .i64 0)), none, 0, 0, []⟩])
 (.seq (.seq (.reg [⟨(some 5), .mv (.k (.int .i64 0)), none, 65536, 0, []⟩])
 (.block 0 (.loop [0, 1, 5] []
  (.seq (.seq (.reg [⟨(some 6), .mv (.t 5), none, 131072, 0, []⟩,
    ⟨(some 7), .mv (.t 0), none, 131328, 1, []⟩,
    ⟨(some 8), .len false (.t 7), none, 131584, 2, []⟩,
    ⟨(some 9), .bin .lss (.t 6) (.t 8), none, 131840, 3, []⟩])
  (.cond (.t 9)
   (.skip)
   (.exit 0)))
  (.seq (.block 1 (.seq (.seq (.reg [⟨(some 12), .mv (.t 0), none, 262144, 0, []⟩,
    ⟨(some 13), .mv (.t 5), none, 262400, 1, []⟩,
    ⟨(some 14), .iaddr 4 (.t 12) (.t 13), none, 262656, 2, []⟩,
    ⟨(some 15), .faddr 0 (.t 14), none, 262912, 3, []⟩,
    ⟨(some 16), .load 1 false (.t 15), none, 263168, 4, []⟩,
    ⟨(some 17), .mv (.t 1), none, 263424, 5, []⟩,
    ⟨(some 18), .bin .neq (.t 16) (.t 17), none, 263680, 6, []⟩])
  (.cond (.t 18)
   (.seq (.reg [⟨(some 4), .mv (.k (.int .i64 (-1))), none, 327680, 0, []⟩])
   (.ret))
   (.skip)))
  (.seq (.reg [⟨(some 19), .mv (.t 1), none, 393216, 0, []⟩,
    ⟨(some 20), .bin .add (.t 19) (.k (.int .i64 1)), none, 393472, 1, []⟩,
    ⟨(some 1), .mv (.t 20), none, 393728, 2, []⟩])
  (.seq (.seq (.reg [⟨(some 21), .mv (.t 0), none, 458752, 0, []⟩,
    ⟨(some 22), .mv (.t 5), none, 459008, 1, []⟩,
    ⟨(some 23), .iaddr 4 (.t 21) (.t 22), none, 459264, 2, []⟩,
    ⟨(some 24), .faddr 1 (.t 23), none, 459520, 3, []⟩,
    ⟨(some 25), .load 1 false (.t 24), none, 459776, 4, []⟩,
    ⟨(some 26), .mv (.t 1), none, 460032, 5, []⟩,
    ⟨(some 27), .bin .neq (.t 25) (.t 26), none, 460288, 6, []⟩])
  (.cond (.t 27)
   (.seq (.reg [⟨(some 4), .mv (.k (.int .i64 (-1))), none, 524288, 0, []⟩])
   (.ret))
   (.skip)))
  (.seq (.reg [⟨(some 28), .mv (.t 1), none, 589824, 0, []⟩,
    ⟨(some 29), .bin .add (.t 28) (.k (.int .i64 1)), none, 590080, 1, []⟩,
    ⟨(some 1), .mv (.t 29), none, 590336, 2, []⟩])
  (.seq (.seq (.reg [⟨(some 30), .mv (.t 0), none, 655360, 0, []⟩,
    ⟨(some 31), .mv (.t 5), none, 655616, 1, []⟩,
    ⟨(some 32), .iaddr 4 (.t 30) (.t 31), none, 655872, 2, []⟩,
    ⟨(some 33), .faddr 2 (.t 32), none, 656128, 3, []⟩,
    ⟨(some 34), .faddr 0 (.t 33), none, 656384, 4, []⟩,
    ⟨(some 35), .load 1 false (.t 34), none, 656640, 5, []⟩,
    ⟨(some 36), .mv (.t 1), none, 656896, 6, []⟩,
    ⟨(some 37), .bin .neq (.t 35) (.t 36), none, 657152, 7, []⟩])
  (.cond (.t 37)
   (.seq (.reg [⟨(some 4), .mv (.k (.int .i64 (-1))), none, 720896, 0, []⟩])
   (.ret))
   (.skip)))
  (.seq (.reg [⟨(some 38), .mv (.t 1), none, 786432, 0, []⟩,
    ⟨(some 39), .bin .add (.t 38) (.k (.int .i64 1)), none, 786688, 1, []⟩,
    ⟨(some 1), .mv (.t 39), none, 786944, 2, []⟩])
  (.seq (.seq (.reg [⟨(some 40), .mv (.t 0), none, 851968, 0, []⟩,
    ⟨(some 41), .mv (.t 5), none, 852224, 1, []⟩,
    ⟨(some 42), .iaddr 4 (.t 40) (.t 41), none, 852480, 2, []⟩,
    ⟨(some 43), .faddr 2 (.t 42), none, 852736, 3, []⟩,
    ⟨(some 44), .faddr 1 (.t 43), none, 852992, 4, []⟩,
    ⟨(some 45), .load 1 false (.t 44), none, 853248, 5, []⟩,
    ⟨(some 46), .mv (.t 1), none, 853504, 6, []⟩,
    ⟨(some 47), .bin .neq (.t 45) (.t 46), none, 853760, 7, []⟩])
  (.cond (.t 47)
   (.seq (.reg [⟨(some 4), .mv (.k (.int .i64 (-1))), none, 917504, 0, []⟩])
   (.ret))
   (.skip)))
  (.reg [⟨(some 48), .mv (.t 1), none, 983040, 0, []⟩,
    ⟨(some 49), .bin .add (.t 48) (.k (.int .i64 1)), none, 983296, 1, []⟩,
    ⟨(some 1), .mv (.t 49), none, 983552, 2, []⟩])))))))))
  (.reg [⟨(some 10), .mv (.t 5), none, 196608, 0, []⟩,
    ⟨(some 11), .bin .add (.t 10) (.k (.int .i64 1)), none, 196864, 1, []⟩,
    ⟨(some 5), .mv (.t 11), none, 197120, 2, []⟩]))))))
 (.seq (.reg [⟨(some 50), .mv (.t 1), none, 1048576, 0, []⟩,
   ⟨(some 4), .mv (.t 50), none, 1048832, 1, []⟩])
 (.ret)))⟩
/-- loop.example/g00849/laws.heldEntryS -/
def F42 : F := ⟨2, 112, [.t 4],
 .seq (.reg [⟨(some 4), .mv (.k (.int .i64 0)), none, 0, 0, []⟩])
 (.seq (.seq (.reg [⟨(some 5), .mv (.k (.int .i64 0)), none, 65536, 0, []⟩])
 (.block 0 (.loop [0, 1, 5] []
  (.seq (.seq (.reg [⟨(some 6), .mv (.t 5), none, 131072, 0, []⟩,
    ⟨(some 7), .mv (.t 0), none, 131328, 1, []⟩,
    ⟨(some 8), .len false (.t 7), none, 131584, 2, []⟩,
    ⟨(some 9), .bin .lss (.t 6) (.t 8), none, 131840, 3, []⟩])
  (.cond (.t 9)
   (.skip)
   (.exit 0)))
  (.seq (.block 1 (.seq (.seq (.reg [⟨(some 12), .mv (.t 0), none, 262144, 0, []⟩,
    ⟨(some 13), .mv (.t 5), none, 262400, 1, []⟩,
    ⟨(some 14), .iaddr 10 (.t 12) (.t 13), none, 262656, 2, []⟩,
    ⟨(some 15), .faddr 0 (.t 14), none, 262912, 3, []⟩,
    ⟨(some 16), .faddr 0 (.t 15), none, 263168, 4, []⟩,
    ⟨(some 17), .load 1 false (.t 16), none, 263424, 5, []⟩,
    ⟨(some 18), .mv (.t 1), none, 263680, 6, []⟩,
    ⟨(some 19), .bin .neq (.t 17) (.t 18), none, 263936, 7, []⟩])
  (.cond (.t 19)
   (.seq (.reg [⟨(some 4), .mv (.k (.int .i64 (-1))), none, 327680, 0, []⟩])
   (.ret))
   (.skip)))
  (.seq (.reg [⟨(some 20), .mv (.t 1), none, 393216, 0, []⟩,
    ⟨(some 21), .bin .add (.t 20) (.k (.int .i64 1)), none, 393472, 1, []⟩,
    ⟨(some 1), .mv (.t 21), none, 393728, 2, []⟩])
  (.seq (.seq (.reg [⟨(some 22), .mv (.t 0), none, 458752, 0, []⟩,
    ⟨(some 23), .mv (.t 5), none, 459008, 1, []⟩,
    ⟨(some 24), .iaddr 10 (.t 22) (.t 23), none, 459264, 2, []⟩,
    ⟨(some 25), .faddr 0 (.t 24), none, 459520, 3, []⟩,
    ⟨(some 26), .faddr 1 (.t 25), none, 459776, 4, []⟩,
    ⟨(some 27), .load 1 false (.t 26), none, 460032, 5, []⟩,
    ⟨(some 28), .mv (.t 1), none, 460288, 6, []⟩,
    ⟨(some 29), .bin .neq (.t 27) (.t 28), none, 460544, 7, []⟩])
  (.cond (.t 29)
   (.seq (.reg [⟨(some 4), .mv (.k (.int .i64 (-1))), none, 524288, 0, []⟩])
   (.ret))
   (.skip)))
  (.seq (.reg [⟨(some 30), .mv (.t 1), none, 589824, 0, []⟩,
    ⟨(some 31), .bin .add (.t 30) (.k (.int .i64 1)), none, 590080, 1, []⟩,
    ⟨(some 1), .mv (.t 31), none, 590336, 2, []⟩])
  (.seq (.seq (.reg [⟨(some 32), .mv (.t 0), none, 655360, 0, []⟩,
    ⟨(some 33), .mv (.t 5), none, 655616, 1, []⟩,
    ⟨(some 34), .iaddr 10 (.t 32) (.t 33), none, 655872, 2, []⟩,
    ⟨(some 35), .faddr 2 (.t 34), none, 656128, 3, []⟩,
    ⟨(some 36), .faddr 0 (.t 35), none, 656384, 4, []⟩,
    ⟨(some 37), .load 1 false (.t 36), none, 656640, 5, []⟩,
    ⟨(some 38), .mv (.t 1), none, 656896, 6, []⟩,
    ⟨(some 39), .bin .neq (.t 37) (.t 38), none, 657152, 7, []⟩])
  (.cond (.t 39)
   (.seq (.reg [⟨(some 4), .mv (.k (.int .i64 (-1))), none, 720896, 0, []⟩])
   (.ret))
   (.skip)))
  (.seq (.reg [⟨(some 40), .mv (.t 1), none, 786432, 0, []⟩,
    ⟨(some 41), .bin .add (.t 40) (.k (.int .i64 1)), none, 786688, 1, []⟩,
    ⟨(some 1), .mv (.t 41), none, 786944, 2, []⟩])
  (.seq (.seq (.reg [⟨(some 42), .mv (.t 0), none, 851968, 0, []⟩,
    ⟨(some 43), .mv (.t 5), none, 852224, 1, []⟩,
    ⟨(some 44), .iaddr 10 (.t 42) (.t 43), none, 852480, 2, []⟩,
    ⟨(some 45), .faddr 2 (.t 44), none, 852736, 3, []⟩,
    ⟨(some 46), .faddr 1 (.t 45), none, 852992, 4, []⟩,
    ⟨(some 47), .load 1 false (.t 46), none, 853248, 5, []⟩,
    ⟨(some 48), .mv (.t 1), none, 853504, 6, []⟩,
    ⟨(some 49), .bin .neq (.t 47) (.t 48), none, 853760, 7, []⟩])
  (.cond (.t 49)
   (.seq (.reg [⟨(some 4), .mv (.k (.int .i64 (-1))), none, 917504, 0, []⟩])
   (.ret))
   (.skip)))
  (.seq (.reg [⟨(some 50), .mv (.t 1), none, 983040, 0, []⟩,
    ⟨(some 51), .bin .add (.t 50) (.k (.int .i64 1)), none, 983296, 1, []⟩,
    ⟨(some 1), .mv (.t 51), none, 983552, 2, []⟩])
  (.seq (.seq (.reg [⟨(some 52), .mv (.t 0), none, 1048576, 0, []⟩,
    ⟨(some 53), .mv (.t 5), none, 1048832, 1, []⟩,
    ⟨(some 54), .iaddr 10 (.t 52) (.t 53), none, 1049088, 2, []⟩,
    ⟨(some 55), .faddr 4 (.t 54), none, 1049344, 3, []⟩,
    ⟨(some 56), .load 1 false (.t 55), none, 1049600, 4, []⟩,
    ⟨(some 57), .mv (.t 1), none, 1049856, 5, []⟩,
    ⟨(some 58), .call 77 [(.t 57)] true, none, 1050112, 6, []⟩,
    ⟨(some 59), .bin .neq (.t 56) (.t 58), none, 1050368, 7, []⟩])
  (.cond (.t 59)
   (.seq (.reg [⟨(some 4), .mv (.k (.int .i64 (-1))), none, 1114112, 0, []⟩])
   (.ret))
   (.skip)))
  (.seq (.reg [⟨(some 60), .mv (.t 1), none, 1179648, 0, []⟩,
    ⟨(some 61), .bin .add (.t 60) (.k (.int .i64 1)), none, 1179904, 1, []⟩,
    ⟨(some 1), .mv (.t 61), none, 1180160, 2, []⟩])
  (.seq (.seq (.reg [⟨(some 62), .mv (.t 0), none, 1245184, 0, []⟩,
    ⟨(some 63), .mv (.t 5), none, 1245440, 1, []⟩,
    ⟨(some 64), .iaddr 10 (.t 62) (.t 63), none, 1245696, 2, []⟩,
    ⟨(some 65), .faddr 5 (.t 64), none, 1245952, 3, []⟩,
    ⟨(some 66), .load 1 false (.t 65), none, 1246208, 4, []⟩,
    ⟨(some 67), .mv (.t 1), none, 1246464, 5, []⟩,
    ⟨(some 68), .bin .rem (.t 67) (.k (.int .i64 3)), none, 1246720, 6, []⟩,
    ⟨(some 69), .bin .eql (.t 68) (.k (.int .i64 0)), none, 1246976, 7, []⟩,
    ⟨(some 70), .eqv true false [.b] (.t 66) (.t 69), none, 1247232, 8, []⟩])
  (.cond (.t 70)
   (.seq (.reg [⟨(some 4), .mv (.k (.int .i64 (-1))), none, 1310720, 0, []⟩])
   (.ret))
   (.skip)))
  (.seq (.reg [⟨(some 71), .mv (.t 1), none, 1376256, 0, []⟩,
    ⟨(some 72), .bin .add (.t 71) (.k (.int .i64 1)), none, 1376512, 1, []⟩,
    ⟨(some 1), .mv (.t 72), none, 1376768, 2, []⟩])
  (.seq (.seq (.reg [⟨(some 73), .mv (.t 0), none, 1441792, 0, []⟩,
    ⟨(some 74), .mv (.t 5), none, 1442048, 1, []⟩,
    ⟨(some 75), .iaddr 10 (.t 73) (.t 74), none, 1442304, 2, []⟩,
    ⟨(some 76), .faddr 6 (.t 75), none, 1442560, 3, []⟩,
    ⟨(some 77), .load 1 false (.t 76), none, 1442816, 4, []⟩,
    ⟨(some 78), .mv (.t 1), none, 1443072, 5, []⟩,
    ⟨(some 79), .bin .neq (.t 77) (.t 78), none, 1443328, 6, []⟩])
  (.cond (.t 79)
   (.seq (.reg [⟨(some 4), .mv (.k (.int .i64 (-1))), none, 1507328, 0, []⟩])
   (.ret))
   (.skip)))
  (.seq (.reg [⟨(some 80), .mv (.t 1), none, 1572864, 0, []⟩,
    ⟨(some 81), .bin .add (.t 80) (.k (.int .i64 1)), none, 1573120, 1, []⟩,
    ⟨(some 1), .mv (.t 81), none, 1573376, 2, []⟩])
  (.seq (.seq (.reg [⟨(some 82), .mv (.t 0), none, 1638400, 0, []⟩,
    ⟨(some 83), .mv (.t 5), none, 1638656, 1, []⟩,
    ⟨(some 84), .iaddr 10 (.t 82) (.t 83), none, 1638912, 2, []⟩,
    ⟨(some 85), .faddr 7 (.t 84), none, 1639168, 3, []⟩,
    ⟨(some 86), .load 1 false (.t 85), none, 1639424, 4, []⟩,
    ⟨(some 87), .mv (.t 1), none, 1639680, 5, []⟩,
    ⟨(some 88), .bin .neq (.t 86) (.t 87), none, 1639936, 6, []⟩])
  (.cond (.t 88)
   (.seq (.reg [⟨(some 4), .mv (.k (.int .i64 (-1))), none, 1703936, 0, []⟩])
   (.ret))
   (.skip)))
  (.seq (.reg [⟨(some 89), .mv (.t 1), none, 1769472, 0, []⟩,
    ⟨(some 90), .bin .add (.t 89) (.k (.int .i64 1)), none, 1769728, 1, []⟩,
    ⟨(some 1), .mv (.t 90), none, 1769984, 2, []⟩])
  (.seq (.seq (.reg [⟨(some 91), .mv (.t 0), none, 1835008, 0, []⟩,
    ⟨(some 92), .mv (.t 5), none, 1835264, 1, []⟩,
    ⟨(some 93), .iaddr 10 (.t 91) (.t 92), none, 1835520, 2, []⟩,
    ⟨(some 94), .faddr 8 (.t 93), none, 1835776, 3, []⟩,
    ⟨(some 95), .faddr 0 (.t 94), none, 1836032, 4, []⟩,
    ⟨(some 96), .load 1 false (.t 95), none, 1836288, 5, []⟩,
    ⟨(some 97), .mv (.t 1), none, 1836544, 6, []⟩,
    ⟨(some 98), .bin .neq (.t 96) (.t 97), none, 1836800, 7, []⟩])
  (.cond (.t 98)
   (.seq (.reg [⟨(some 4), .mv (.k (.int .i64 (-1))), none, 1900544, 0, []⟩])
   (.ret))
   (.skip)))
  (.seq (.reg [⟨(some 99), .mv (.t 1), none, 1966080, 0, []⟩,
    ⟨(some 100), .bin .add (.t 99) (.k (.int .i64 1)), none, 1966336, 1, []⟩,
    ⟨(some 1), .mv (.t 100), none, 1966592, 2, []⟩])
  (.seq (.seq (.reg [⟨(some 101), .mv (.t 0), none, 2031616, 0, []⟩,
    ⟨(some 102), .mv (.t 5), none, 2031872, 1, []⟩,
    ⟨(some 103), .iaddr 10 (.t 101) (.t 102), none, 2032128, 2, []⟩,
    ⟨(some 104), .faddr 8 (.t 103), none, 2032384, 3, []⟩,
    ⟨(some 105), .faddr 1 (.t 104), none, 2032640, 4, []⟩,
    ⟨(some 106), .load 1 false (.t 105), none, 2032896, 5, []⟩,
    ⟨(some 107), .mv (.t 1), none, 2033152, 6, []⟩,
    ⟨(some 108), .bin .neq (.t 106) (.t 107), none, 2033408, 7, []⟩])
  (.cond (.t 108)
   (.seq (.reg [⟨(some 4), .mv (.k (.int .i64 (-1))), none, 2097152, 0, []⟩])
   (.ret))
   (.skip)))
  (.reg [⟨(some 109), .mv (.t 1), none, 2162688, 0, []⟩,
    ⟨(some 110), .bin .add (.t 109) (.k (.int .i64 1)), none, 2162944, 1, []⟩,
    ⟨(some 1), .mv (.t 110), none, 2163200, 2, []⟩])))))))))))))))))))))
  (.reg [⟨(some 10), .mv (.t 5), none, 196608, 0, []⟩,
    ⟨(some 11), .bin .add (.t 10) (.k (.int .i64 1)), none, 196864, 1, []⟩,
    ⟨(some 5), .mv (.t 11), none, 197120, 2, []⟩]))))))
 (.seq (.reg [⟨(some 111), .mv (.t 1), none, 2228224, 0, []⟩,
   ⟨(some 4), .mv (.t 111), none, 2228480, 1, []⟩])
 (.ret)))⟩
/-- loop.example/g00849/laws.heldChunkS -/
def F43 : F := ⟨2, 71, [.t 4],
 .seq (.reg [⟨(some 4), .mv (.k (.int .i64 0)), none, 0, 0, []⟩])
 (.seq (.seq (.reg [⟨(some 5), .mv (.k (.int .i64 0)), none, 65536, 0, []⟩])
 (.block 0 (.loop [0, 1, 5] []
  (.seq (.seq (.reg [⟨(some 6), .mv (.t 5), none, 131072, 0, []⟩,
    ⟨(some 7), .mv (.t 0), none, 131328, 1, []⟩,
    ⟨(some 8), .len false (.t 7), none, 131584, 2, []⟩,
    ⟨(some 9), .bin .lss (.t 6) (.t 8), none, 131840, 3, []⟩])
  (.cond (.t 9)
   (.skip)
   (.exit 0)))
  (.seq (.block 1 (.seq (.seq (.reg [⟨(some 12), .mv (.t 0), none, 262144, 0, []⟩,
    ⟨(some 13), .mv (.t 5), none, 262400, 1, []⟩,
    ⟨(some 14), .iaddr 6 (.t 12) (.t 13), none, 262656, 2, []⟩,
    ⟨(some 15), .faddr 0 (.t 14), none, 262912, 3, []⟩,
    ⟨(some 16), .load 1 false (.t 15), none, 263168, 4, []⟩,
    ⟨(some 17), .mv (.t 1), none, 263424, 5, []⟩,
    ⟨(some 18), .call 77 [(.t 17)] true, none, 263680, 6, []⟩,
    ⟨(some 19), .bin .neq (.t 16) (.t 18), none, 263936, 7, []⟩])
  (.cond (.t 19)
   (.seq (.reg [⟨(some 4), .mv (.k (.int .i64 (-1))), none, 327680, 0, []⟩])
   (.ret))
   (.skip)))
  (.seq (.reg [⟨(some 20), .mv (.t 1), none, 393216, 0, []⟩,
    ⟨(some 21), .bin .add (.t 20) (.k (.int .i64 1)), none, 393472, 1, []⟩,
    ⟨(some 1), .mv (.t 21), none, 393728, 2, []⟩])
  (.seq (.seq (.reg [⟨(some 22), .mv (.t 0), none, 458752, 0, []⟩,
    ⟨(some 23), .mv (.t 5), none, 459008, 1, []⟩,
    ⟨(some 24), .iaddr 6 (.t 22) (.t 23), none, 459264, 2, []⟩,
    ⟨(some 25), .faddr 1 (.t 24), none, 459520, 3, []⟩,
    ⟨(some 26), .faddr 0 (.t 25), none, 459776, 4, []⟩,
    ⟨(some 27), .load 1 false (.t 26), none, 460032, 5, []⟩,
    ⟨(some 28), .mv (.t 1), none, 460288, 6, []⟩,
    ⟨(some 29), .bin .neq (.t 27) (.t 28), none, 460544, 7, []⟩])
  (.cond (.t 29)
   (.seq (.reg [⟨(some 4), .mv (.k (.int .i64 (-1))), none, 524288, 0, []⟩])
   (.ret))
   (.skip)))
  (.seq (.reg [⟨(some 30), .mv (.t 1), none, 589824, 0, []⟩,
    ⟨(some 31), .bin .add (.t 30) (.k (.int .i64 1)), none, 590080, 1, []⟩,
    ⟨(some 1), .mv (.t 31), none, 590336, 2, []⟩])
  (.seq (.seq (.reg [⟨(some 32), .mv (.t 0), none, 655360, 0, []⟩,
    ⟨(some 33), .mv (.t 5), none, 655616, 1, []⟩,
    ⟨(some 34), .iaddr 6 (.t 32) (.t 33), none, 655872, 2, []⟩,
    ⟨(some 35), .faddr 1 (.t 34), none, 656128, 3, []⟩,
    ⟨(some 36), .faddr 1 (.t 35), none, 656384, 4, []⟩,
    ⟨(some 37), .load 1 false (.t 36), none, 656640, 5, []⟩,
    ⟨(some 38), .mv (.t 1), none, 656896, 6, []⟩,
    ⟨(some 39), .bin .neq (.t 37) (.t 38), none, 657152, 7, []⟩])
  (.cond (.t 39)
   (.seq (.reg [⟨(some 4), .mv (.k (.int .i64 (-1))), none, 720896, 0, []⟩])
   (.ret))
   (.skip)))
  (.seq (.reg [⟨(some 40), .mv (.t 1), none, 786432, 0, []⟩,
    ⟨(some 41), .bin .add (.t 40) (.k (.int .i64 1)), none, 786688, 1, []⟩,
    ⟨(some 1), .mv (.t 41), none, 786944, 2, []⟩])
  (.seq (.seq (.reg [⟨(some 42), .mv (.t 0), none, 851968, 0, []⟩,
    ⟨(some 43), .mv (.t 5), none, 852224, 1, []⟩,
    ⟨(some 44), .iaddr 6 (.t 42) (.t 43), none, 852480, 2, []⟩,
    ⟨(some 45), .faddr 3 (.t 44), none, 852736, 3, []⟩,
    ⟨(some 46), .load 1 false (.t 45), none, 852992, 4, []⟩,
    ⟨(some 47), .mv (.t 1), none, 853248, 5, []⟩,
    ⟨(some 48), .bin .neq (.t 46) (.t 47), none, 853504, 6, []⟩])
  (.cond (.t 48)
   (.seq (.reg [⟨(some 4), .mv (.k (.int .i64 (-1))), none, 917504, 0, []⟩])
   (.ret))
   (.skip)))
  (.seq (.reg [⟨(some 49), .mv (.t 1), none, 983040, 0, []⟩,
    ⟨(some 50), .bin .add (.t 49) (.k (.int .i64 1)), none, 983296, 1, []⟩,
    ⟨(some 1), .mv (.t 50), none, 983552, 2, []⟩])
  (.seq (.seq (.reg [⟨(some 51), .mv (.t 0), none, 1048576, 0, []⟩,
    ⟨(some 52), .mv (.t 5), none, 1048832, 1, []⟩,
    ⟨(some 53), .iaddr 6 (.t 51) (.t 52), none, 1049088, 2, []⟩,
    ⟨(some 54), .faddr 4 (.t 53), none, 1049344, 3, []⟩,
    ⟨(some 55), .load 1 false (.t 54), none, 1049600, 4, []⟩,
    ⟨(some 56), .mv (.t 1), none, 1049856, 5, []⟩,
    ⟨(some 57), .bin .neq (.t 55) (.t 56), none, 1050112, 6, []⟩])
  (.cond (.t 57)
   (.seq (.reg [⟨(some 4), .mv (.k (.int .i64 (-1))), none, 1114112, 0, []⟩])
   (.ret))
   (.skip)))
  (.seq (.reg [⟨(some 58), .mv (.t 1), none, 1179648, 0, []⟩,
    ⟨(some 59), .bin .add (.t 58) (.k (.int .i64 1)), none, 1179904, 1, []⟩,
    ⟨(some 1), .mv (.t 59), none, 1180160, 2, []⟩])
  (.seq (.seq (.reg [⟨(some 60), .mv (.t 0), none, 1245184, 0, []⟩,
    ⟨(some 61), .mv (.t 5), none, 1245440, 1, []⟩,
    ⟨(some 62), .iaddr 6 (.t 60) (.t 61), none, 1245696, 2, []⟩,
    ⟨(some 63), .faddr 5 (.t 62), none, 1245952, 3, []⟩,
    ⟨(some 64), .load 1 false (.t 63), none, 1246208, 4, []⟩,
    ⟨(some 65), .mv (.t 1), none, 1246464, 5, []⟩,
    ⟨(some 66), .call 77 [(.t 65)] true, none, 1246720, 6, []⟩,
    ⟨(some 67), .bin .neq (.t 64) (.t 66), none, 1246976, 7, []⟩])
  (.cond (.t 67)
   (.seq (.reg [⟨(some 4), .mv (.k (.int .i64 (-1))), none, 1310720, 0, []⟩])
   (.ret))
   (.skip)))
  (.reg [⟨(some 68), .mv (.t 1), none, 1376256, 0, []⟩,
    ⟨(some 69), .bin .add (.t 68) (.k (.int .i64 1)), none, 1376512, 1, []⟩,
    ⟨(some 1), .mv (.t 69), none, 1376768, 2, []⟩])))))))))))))
  (.reg [⟨(some 10), .mv (.t 5), none, 196608, 0, []⟩,
    ⟨(some 11), .bin .add (.t 10) (.k (.int .i64 1)), none, 196864, 1, []⟩,
    ⟨(some 5), .mv (.t 11), none, 197120, 2, []⟩]))))))
 (.seq (.reg [⟨(some 70), .mv (.t 1), none, 1441792, 0, []⟩,
   ⟨(some 4), .mv (.t 70), none, 1442048, 1, []⟩])
 (.ret)))⟩
/-- loop.example/g00849/spec.EntryOk -/
def F44 : F := ⟨1, 60, [.t 2],
 .seq (.reg [⟨(some 1), .box (.t 0), none, 0, 0, []⟩,
   ⟨(some 2), .mv (.k (.bool false)), none, 256, 1, []⟩])
 (.seq (.seq (.reg [⟨(some 3), .faddr 0 (.t 1), none, 65536, 0, []⟩,
   ⟨(some 4), .load 2 true (.t 3), none, 65792, 1, []⟩,
   ⟨(some 5), .call 55 [(.t 4)] true, none, 66048, 2, []⟩,
   ⟨(some 6), .not (.t 5), none, 66304, 3, []⟩,
   ⟨(some 7), .mv (.t 6), none, 66560, 4, []⟩,
   ⟨(some 8), .faddr 2 (.t 1), (some (some 7, false)), 66816, 5, []⟩,
   ⟨(some 9), .load 2 true (.t 8), (some (some 7, false)), 67072, 6, []⟩,
   ⟨(some 10), .call 55 [(.t 9)] true, (some (some 7, false)), 67328, 7, []⟩,
   ⟨(some 11), .not (.t 10), (some (some 7, false)), 67584, 8, []⟩,
   ⟨(some 12), .pick (.t 7) (.k (.bool true)) (.t 11), none, 67840, 9, []⟩,
   ⟨(some 13), .mv (.t 12), none, 68096, 10, []⟩,
   ⟨(some 14), .faddr 2 (.t 1), (some (some 13, false)), 68352, 11, []⟩,
   ⟨(some 15), .load 2 true (.t 14), (some (some 13, false)), 68608, 12, []⟩,
   ⟨(some 16), .faddr 0 (.t 1), (some (some 13, false)), 68864, 13, []⟩,
   ⟨(some 17), .load 2 true (.t 16), (some (some 13, false)), 69120, 14, []⟩,
   ⟨(some 18), .call 59 [(.t 15), (.t 17)] true, (some (some 13, false)), 69376, 15, []⟩,
   ⟨(some 19), .not (.t 18), (some (some 13, false)), 69632, 16, []⟩,
   ⟨(some 20), .pick (.t 13) (.k (.bool true)) (.t 19), none, 69888, 17, []⟩,
   ⟨(some 21), .mv (.t 20), none, 70144, 18, []⟩,
   ⟨(some 22), .faddr 4 (.t 1), (some (some 21, false)), 70400, 19, []⟩,
   ⟨(some 23), .load 1 false (.t 22), (some (some 21, false)), 70656, 20, []⟩,
   ⟨(some 24), .call 78 [(.t 23)] true, (some (some 21, false)), 70912, 21, []⟩,
   ⟨(some 25), .not (.t 24), (some (some 21, false)), 71168, 22, []⟩,
   ⟨(some 26), .pick (.t 21) (.k (.bool true)) (.t 25), none, 71424, 23, []⟩,
   ⟨(some 27), .mv (.t 26), none, 71680, 24, []⟩,
   ⟨(some 28), .faddr 8 (.t 1), (some (some 27, false)), 71936, 25, []⟩,
   ⟨(some 29), .load 2 true (.t 28), (some (some 27, false)), 72192, 26, []⟩,
   ⟨(some 30), .call 79 [(.t 29)] true, (some (some 27, false)), 72448, 27, []⟩,
   ⟨(some 31), .not (.t 30), (some (some 27, false)), 72704, 28, []⟩,
   ⟨(some 32), .pick (.t 27) (.k (.bool true)) (.t 31), none, 72960, 29, []⟩])
 (.cond (.t 32)
  (.seq (.reg [⟨(some 2), .mv (.k (.bool false)), none, 131072, 0, []⟩])
  (.ret))
  (.skip)))
 (.seq (.reg [⟨(some 33), .faddr 5 (.t 1), none, 196608, 0, []⟩,
   ⟨(some 34), .load 1 false (.t 33), none, 196864, 1, []⟩,
   ⟨(some 35), .mv (.t 34), none, 197120, 2, []⟩,
   ⟨(some 36), .faddr 6 (.t 1), (some (some 35, true)), 197376, 3, []⟩,
   ⟨(some 37), .load 1 false (.t 36), (some (some 35, true)), 197632, 4, []⟩,
   ⟨(some 38), .bin .eql (.t 37) (.k (.int .i64 0)), (some (some 35, true)), 197888, 5, []⟩,
   ⟨(some 39), .pick (.t 35) (.t 38) (.k (.bool false)), none, 198144, 6, []⟩,
   ⟨(some 40), .mv (.t 39), none, 198400, 7, []⟩,
   ⟨(some 41), .faddr 7 (.t 1), (some (some 40, true)), 198656, 8, []⟩,
   ⟨(some 42), .load 1 false (.t 41), (some (some 40, true)), 198912, 9, []⟩,
   ⟨(some 43), .bin .eql (.t 42) (.k (.int .i64 0)), (some (some 40, true)), 199168, 10, []⟩,
   ⟨(some 44), .pick (.t 40) (.t 43) (.k (.bool false)), none, 199424, 11, []⟩,
   ⟨(some 45), .mv (.t 44), none, 199680, 12, []⟩,
   ⟨(some 46), .faddr 5 (.t 1), (some (some 45, false)), 199936, 13, []⟩,
   ⟨(some 47), .load 1 false (.t 46), (some (some 45, false)), 200192, 14, []⟩,
   ⟨(some 48), .not (.t 47), (some (some 45, false)), 200448, 15, []⟩,
   ⟨(some 49), .mv (.t 48), (some (some 45, false)), 200704, 16, []⟩,
   ⟨(some 50), .faddr 6 (.t 1), (some (some 49, true)), 200960, 17, []⟩,
   ⟨(some 51), .load 1 false (.t 50), (some (some 49, true)), 201216, 18, []⟩,
   ⟨(some 52), .call 54 [(.t 51), (.k (.int .i64 0)), (.k (.int .i64 64))] true, (some (some 49, true)), 201472, 19, []⟩,
   ⟨(some 53), .pick (.t 49) (.t 52) (.k (.bool false)), (some (some 45, false)), 201728, 20, []⟩,
   ⟨(some 54), .mv (.t 53), (some (some 45, false)), 201984, 21, []⟩,
   ⟨(some 55), .faddr 7 (.t 1), (some (some 54, true)), 202240, 22, []⟩,
   ⟨(some 56), .load 1 false (.t 55), (some (some 54, true)), 202496, 23, []⟩,
   ⟨(some 57), .call 80 [(.t 56)] true, (some (some 54, true)), 202752, 24, []⟩,
   ⟨(some 58), .pick (.t 54) (.t 57) (.k (.bool false)), (some (some 45, false)), 203008, 25, []⟩,
   ⟨(some 59), .pick (.t 45) (.k (.bool true)) (.t 58), none, 203264, 26, []⟩,
   ⟨(some 2), .mv (.t 59), none, 203520, 27, []⟩])
 (.ret)))⟩
/-- loop.example/g00849/spec.l17LastOf -/
def F45 : F := ⟨1, 18, [.cell 2 2 true],
 .seq (.reg [⟨(some 1), .box (.t 0), none, 0, 0, []⟩,
   ⟨(some 2), .alloc [(.int .i64 0), (.int .i64 0)], none, 256, 1, []⟩])
 (.seq (.seq (.reg [⟨(some 4), .faddr 8 (.t 1), none, 65536, 0, []⟩,
   ⟨(some 5), .load 1 false (.t 4), none, 65792, 1, []⟩,
   ⟨(some 6), .len false (.t 5), none, 66048, 2, []⟩,
   ⟨(some 3), .mv (.t 6), none, 66304, 3, []⟩])
 (.seq (.reg [⟨(some 7), .mv (.t 3), none, 131072, 0, []⟩,
   ⟨(some 8), .bin .gtr (.t 7) (.k (.int .i64 0)), none, 131328, 1, []⟩])
 (.cond (.t 8)
  (.seq (.reg [⟨(some 9), .faddr 8 (.t 1), none, 196608, 0, []⟩,
    ⟨(some 10), .load 1 false (.t 9), none, 196864, 1, []⟩,
    ⟨(some 11), .mv (.t 3), none, 197120, 2, []⟩,
    ⟨(some 12), .bin .sub (.t 11) (.k (.int .i64 1)), none, 197376, 3, []⟩,
    ⟨(some 13), .iaddr 10 (.t 10) (.t 12), none, 197632, 4, []⟩,
    ⟨(some 14), .faddr 0 (.t 13), none, 197888, 5, []⟩,
    ⟨(some 15), .load 2 true (.t 14), none, 198144, 6, []⟩,
    ⟨none, .store 2 (.t 2) (.t 15), none, 198400, 7, []⟩])
  (.ret))
  (.skip))))
 (.seq (.reg [⟨(some 16), .faddr 4 (.t 1), none, 262144, 0, []⟩,
   ⟨(some 17), .load 2 true (.t 16), none, 262400, 1, []⟩,
   ⟨none, .store 2 (.t 2) (.t 17), none, 262656, 2, []⟩])
 (.ret)))⟩
/-- loop.example/g00849/spec.l17Put -/
def F46 : F := ⟨2, 64, [.t 4],
 .seq (.reg [⟨(some 3), .box (.t 1), none, 0, 0, []⟩,
   ⟨(some 4), .nil0 true 5, none, 256, 1, []⟩])
 (.seq (.reg [⟨(some 5), .mv (.k (.int .i64 0)), none, 65536, 0, []⟩])
 (.seq (.block 0 (.loop [0, 3, 5] [0, 1, 2, 3, 4, 5, 256, 262144, 263168, 395776, 396032, 590848]
  (.seq (.seq (.reg [⟨(some 7), .mv (.t 5), none, 131072, 0, []⟩,
    ⟨(some 8), .mv (.t 0), none, 131328, 1, []⟩,
    ⟨(some 9), .len false (.t 8), none, 131584, 2, []⟩,
    ⟨(some 10), .bin .lss (.t 7) (.t 9), none, 131840, 3, []⟩,
    ⟨(some 11), .mv (.t 10), none, 132096, 4, []⟩,
    ⟨(some 12), .mv (.t 0), (some (some 11, true)), 132352, 5, []⟩,
    ⟨(some 13), .mv (.t 5), (some (some 11, true)), 132608, 6, []⟩,
    ⟨(some 14), .iaddr 5 (.t 12) (.t 13), (some (some 11, true)), 132864, 7, []⟩,
    ⟨(some 15), .faddr 0 (.t 14), (some (some 11, true)), 133120, 8, []⟩,
    ⟨(some 16), .load 1 false (.t 15), (some (some 11, true)), 133376, 9, []⟩,
    ⟨(some 17), .faddr 4 (.t 3), (some (some 11, true)), 133632, 10, []⟩,
    ⟨(some 18), .load 1 false (.t 17), (some (some 11, true)), 133888, 11, []⟩,
    ⟨(some 19), .bin .lss (.t 16) (.t 18), (some (some 11, true)), 134144, 12, []⟩,
    ⟨(some 20), .pick (.t 11) (.t 19) (.k (.bool false)), none, 134400, 13, []⟩])
  (.cond (.t 20)
   (.skip)
   (.exit 0)))
  (.block 1 (.reg [⟨(some 21), .mv (.t 5), none, 196608, 0, []⟩,
    ⟨(some 22), .bin .add (.t 21) (.k (.int .i64 1)), none, 196864, 1, []⟩,
    ⟨(some 5), .mv (.t 22), none, 197120, 2, []⟩])))))
 (.seq (.reg [⟨(some 23), .bslice true 5 [(.str ByteArray.empty), (.int .i64 0), (.int .i64 0), (.int .i64 0), (.int .i64 0)] 0 [], none, 262144, 0, []⟩,
   ⟨(some 24), .mv (.t 0), none, 262400, 1, []⟩,
   ⟨(some 25), .mv (.t 5), none, 262656, 2, []⟩,
   ⟨(some 26), .cut 5 (.t 24) none (some (.t 25)), none, 262912, 3, []⟩,
   ⟨(some 27), .app true 5 48 (.t 23) (.t 26), none, 263168, 4, []⟩,
   ⟨(some 6), .mv (.t 27), none, 263424, 5, []⟩])
 (.seq (.seq (.reg [⟨(some 28), .faddr 5 (.t 3), none, 327680, 0, []⟩,
   ⟨(some 29), .load 1 false (.t 28), none, 327936, 1, []⟩,
   ⟨(some 30), .not (.t 29), none, 328192, 2, []⟩])
 (.cond (.t 30)
  (.reg [⟨(some 31), .mv (.t 6), none, 393216, 0, []⟩,
    ⟨(some 32), .faddr 4 (.t 3), none, 393472, 1, []⟩,
    ⟨(some 33), .load 1 false (.t 32), none, 393728, 2, []⟩,
    ⟨(some 34), .faddr 0 (.t 3), none, 393984, 3, []⟩,
    ⟨(some 35), .load 2 true (.t 34), none, 394240, 4, []⟩,
    ⟨(some 36), .faddr 6 (.t 3), none, 394496, 5, []⟩,
    ⟨(some 37), .load 1 false (.t 36), none, 394752, 6, []⟩,
    ⟨(some 38), .faddr 7 (.t 3), none, 395008, 7, []⟩,
    ⟨(some 39), .load 1 false (.t 38), none, 395264, 8, []⟩,
    ⟨(some 40), .build [(.str ByteArray.empty), (.int .i64 0), (.int .i64 0), (.int .i64 0), (.int .i64 0)] [(0, 1, (.t 33)), (1, 2, (.t 35)), (3, 1, (.t 37)), (4, 1, (.t 39))], none, 395520, 9, []⟩,
    ⟨(some 41), .bslice true 5 [(.str ByteArray.empty), (.int .i64 0), (.int .i64 0), (.int .i64 0), (.int .i64 0)] 1 [(0, (.t 40))], none, 395776, 10, []⟩,
    ⟨(some 42), .app true 5 48 (.t 31) (.t 41), none, 396032, 11, []⟩,
    ⟨(some 6), .mv (.t 42), none, 396288, 12, []⟩])
  (.skip)))
 (.seq (.seq (.reg [⟨(some 43), .mv (.t 5), none, 458752, 0, []⟩,
   ⟨(some 44), .mv (.t 0), none, 459008, 1, []⟩,
   ⟨(some 45), .len false (.t 44), none, 459264, 2, []⟩,
   ⟨(some 46), .bin .lss (.t 43) (.t 45), none, 459520, 3, []⟩,
   ⟨(some 47), .mv (.t 46), none, 459776, 4, []⟩,
   ⟨(some 48), .mv (.t 0), (some (some 47, true)), 460032, 5, []⟩,
   ⟨(some 49), .mv (.t 5), (some (some 47, true)), 460288, 6, []⟩,
   ⟨(some 50), .iaddr 5 (.t 48) (.t 49), (some (some 47, true)), 460544, 7, []⟩,
   ⟨(some 51), .faddr 0 (.t 50), (some (some 47, true)), 460800, 8, []⟩,
   ⟨(some 52), .load 1 false (.t 51), (some (some 47, true)), 461056, 9, []⟩,
   ⟨(some 53), .faddr 4 (.t 3), (some (some 47, true)), 461312, 10, []⟩,
   ⟨(some 54), .load 1 false (.t 53), (some (some 47, true)), 461568, 11, []⟩,
   ⟨(some 55), .bin .eql (.t 52) (.t 54), (some (some 47, true)), 461824, 12, []⟩,
   ⟨(some 56), .pick (.t 47) (.t 55) (.k (.bool false)), none, 462080, 13, []⟩])
 (.cond (.t 56)
  (.reg [⟨(some 57), .mv (.t 5), none, 524288, 0, []⟩,
    ⟨(some 58), .bin .add (.t 57) (.k (.int .i64 1)), none, 524544, 1, []⟩,
    ⟨(some 5), .mv (.t 58), none, 524800, 2, []⟩])
  (.skip)))
 (.seq (.reg [⟨(some 59), .mv (.t 6), none, 589824, 0, []⟩,
   ⟨(some 60), .mv (.t 0), none, 590080, 1, []⟩,
   ⟨(some 61), .mv (.t 5), none, 590336, 2, []⟩,
   ⟨(some 62), .cut 5 (.t 60) (some (.t 61)) none, none, 590592, 3, []⟩,
   ⟨(some 63), .app true 5 48 (.t 59) (.t 62), none, 590848, 4, []⟩,
   ⟨(some 4), .mv (.t 63), none, 591104, 5, []⟩])
 (.ret)))))))⟩
/-- loop.example/g00849/spec.l17HeadsAt -/
def F47 : F := ⟨2, 24, [.t 4],
 .seq (.reg [⟨(some 2), .box (.t 0), none, 0, 0, []⟩,
   ⟨(some 4), .nil0 true 5, none, 256, 1, []⟩])
 (.seq (.reg [⟨(some 7), .bslice true 5 [(.str ByteArray.empty), (.int .i64 0), (.int .i64 0), (.int .i64 0), (.int .i64 0)] 0 [], none, 65536, 0, []⟩,
   ⟨(some 8), .faddr 6 (.t 2), none, 65792, 1, []⟩,
   ⟨(some 9), .load 1 false (.t 8), none, 66048, 2, []⟩,
   ⟨(some 10), .app true 5 48 (.t 7) (.t 9), none, 66304, 3, []⟩,
   ⟨(some 5), .mv (.t 10), none, 66560, 4, []⟩])
 (.seq (.seq (.reg [⟨(some 6), .mv (.k (.int .i64 0)), none, 131072, 0, []⟩])
 (.block 0 (.loop [1, 2, 5, 6] [0, 65536]
  (.seq (.seq (.seq (.reg [⟨(some 11), .mv (.t 6), none, 196608, 0, []⟩,
    ⟨(some 12), .mv (.t 1), none, 196864, 1, []⟩,
    ⟨(some 13), .bin .lss (.t 11) (.t 12), none, 197120, 2, []⟩])
  (.cond (.t 13)
   (.skip)
   (.exit 0)))
  (.seq (.block 1 (.reg [⟨(some 16), .mv (.t 5), none, 327680, 0, []⟩,
    ⟨(some 17), .faddr 8 (.t 2), none, 327936, 1, []⟩,
    ⟨(some 18), .load 1 false (.t 17), none, 328192, 2, []⟩,
    ⟨(some 19), .mv (.t 6), none, 328448, 3, []⟩,
    ⟨(some 20), .iaddr 10 (.t 18) (.t 19), none, 328704, 4, []⟩,
    ⟨(some 21), .load 10 true (.t 20), none, 328960, 5, []⟩,
    ⟨(some 22), .call 46 [(.t 16), (.t 21)] false, none, 329216, 6, []⟩,
    ⟨(some 5), .mv (.t 22), none, 329472, 7, []⟩]))
  (.reg [⟨(some 14), .mv (.t 6), none, 262144, 0, []⟩,
    ⟨(some 15), .bin .add (.t 14) (.k (.int .i64 1)), none, 262400, 1, []⟩,
    ⟨(some 6), .mv (.t 15), none, 262656, 2, []⟩])))
  (.ren 329216 65536)))))
 (.seq (.reg [⟨(some 23), .mv (.t 5), none, 393216, 0, []⟩,
   ⟨(some 4), .mv (.t 23), none, 393472, 1, []⟩])
 (.ret))))⟩
/-- loop.example/g00849/laws.toReq -/
def F48 : F := ⟨1, 11, [.cell 2 2 true],
 .seq (.reg [⟨(some 1), .box (.t 0), none, 0, 0, []⟩,
   ⟨(some 2), .alloc [(.int .i64 0), (.int .i64 0)], none, 256, 1, []⟩])
 (.seq (.reg [⟨(some 3), .alloc [(.int .i64 0), (.int .i64 0)], none, 65536, 0, []⟩])
 (.seq (.reg [⟨(some 4), .faddr 0 (.t 1), none, 131072, 0, []⟩,
   ⟨(some 5), .load 1 false (.t 4), none, 131328, 1, []⟩,
   ⟨(some 6), .faddr 0 (.t 3), none, 131584, 2, []⟩,
   ⟨none, .store 1 (.t 6) (.t 5), none, 131840, 3, []⟩])
 (.seq (.reg [⟨(some 7), .faddr 1 (.t 1), none, 196608, 0, []⟩,
   ⟨(some 8), .load 1 false (.t 7), none, 196864, 1, []⟩,
   ⟨(some 9), .faddr 1 (.t 3), none, 197120, 2, []⟩,
   ⟨none, .store 1 (.t 9) (.t 8), none, 197376, 3, []⟩])
 (.seq (.reg [⟨(some 10), .load 2 true (.t 3), none, 262144, 0, []⟩,
   ⟨none, .store 2 (.t 2) (.t 10), none, 262400, 1, []⟩])
 (.ret)))))⟩
/-- loop.example/g00849/impl.EntryOk -/
def F49 : F := ⟨1, 50, [.t 2],
 .seq (.reg [⟨(some 1), .box (.t 0), none, 0, 0, []⟩,
   ⟨(some 2), .mv (.k (.bool false)), none, 256, 1, []⟩])
 (.seq (.reg [⟨(some 3), .faddr 0 (.t 1), none, 65536, 0, []⟩,
   ⟨(some 4), .load 2 true (.t 3), none, 65792, 1, []⟩,
   ⟨(some 5), .call 66 [(.t 4)] true, none, 66048, 2, []⟩,
   ⟨(some 6), .mv (.t 5), none, 66304, 3, []⟩,
   ⟨(some 7), .faddr 2 (.t 1), (some (some 6, true)), 66560, 4, []⟩,
   ⟨(some 8), .load 2 true (.t 7), (some (some 6, true)), 66816, 5, []⟩,
   ⟨(some 9), .call 66 [(.t 8)] true, (some (some 6, true)), 67072, 6, []⟩,
   ⟨(some 10), .pick (.t 6) (.t 9) (.k (.bool false)), none, 67328, 7, []⟩,
   ⟨(some 11), .mv (.t 10), none, 67584, 8, []⟩,
   ⟨(some 12), .faddr 2 (.t 1), (some (some 11, true)), 67840, 9, []⟩,
   ⟨(some 13), .load 2 true (.t 12), (some (some 11, true)), 68096, 10, []⟩,
   ⟨(some 14), .faddr 0 (.t 1), (some (some 11, true)), 68352, 11, []⟩,
   ⟨(some 15), .load 2 true (.t 14), (some (some 11, true)), 68608, 12, []⟩,
   ⟨(some 16), .call 69 [(.t 13), (.t 15)] true, (some (some 11, true)), 68864, 13, []⟩,
   ⟨(some 17), .pick (.t 11) (.t 16) (.k (.bool false)), none, 69120, 14, []⟩,
   ⟨(some 18), .mv (.t 17), none, 69376, 15, []⟩,
   ⟨(some 19), .faddr 4 (.t 1), (some (some 18, true)), 69632, 16, []⟩,
   ⟨(some 20), .load 1 false (.t 19), (some (some 18, true)), 69888, 17, []⟩,
   ⟨(some 21), .call 81 [(.t 20)] true, (some (some 18, true)), 70144, 18, []⟩,
   ⟨(some 22), .pick (.t 18) (.t 21) (.k (.bool false)), none, 70400, 19, []⟩,
   ⟨(some 23), .mv (.t 22), none, 70656, 20, []⟩,
   ⟨(some 24), .faddr 8 (.t 1), (some (some 23, true)), 70912, 21, []⟩,
   ⟨(some 25), .load 2 true (.t 24), (some (some 23, true)), 71168, 22, []⟩,
   ⟨(some 26), .call 82 [(.t 25)] true, (some (some 23, true)), 71424, 23, []⟩,
   ⟨(some 27), .pick (.t 23) (.t 26) (.k (.bool false)), none, 71680, 24, []⟩,
   ⟨(some 28), .mv (.t 27), none, 71936, 25, []⟩,
   ⟨(some 29), .faddr 6 (.t 1), (some (some 28, true)), 72192, 26, []⟩,
   ⟨(some 30), .load 1 false (.t 29), (some (some 28, true)), 72448, 27, []⟩,
   ⟨(some 31), .faddr 7 (.t 1), (some (some 28, true)), 72704, 28, []⟩,
   ⟨(some 32), .load 1 false (.t 31), (some (some 28, true)), 72960, 29, []⟩,
   ⟨(some 33), .call 83 [(.t 30), (.t 32)] true, (some (some 28, true)), 73216, 30, []⟩,
   ⟨(some 34), .pick (.t 28) (.t 33) (.k (.bool false)), none, 73472, 31, []⟩,
   ⟨(some 35), .mv (.t 34), none, 73728, 32, []⟩,
   ⟨(some 36), .faddr 5 (.t 1), (some (some 35, true)), 73984, 33, []⟩,
   ⟨(some 37), .load 1 false (.t 36), (some (some 35, true)), 74240, 34, []⟩,
   ⟨(some 38), .mv (.t 37), (some (some 35, true)), 74496, 35, []⟩,
   ⟨(some 39), .faddr 6 (.t 1), (some (some 38, true)), 74752, 36, []⟩,
   ⟨(some 40), .load 1 false (.t 39), (some (some 38, true)), 75008, 37, []⟩,
   ⟨(some 41), .bin .neq (.t 40) (.k (.int .i64 0)), (some (some 38, true)), 75264, 38, []⟩,
   ⟨(some 42), .mv (.t 41), (some (some 38, true)), 75520, 39, []⟩,
   ⟨(some 43), .faddr 7 (.t 1), (some (some 42, false)), 75776, 40, []⟩,
   ⟨(some 44), .load 1 false (.t 43), (some (some 42, false)), 76032, 41, []⟩,
   ⟨(some 45), .bin .neq (.t 44) (.k (.int .i64 0)), (some (some 42, false)), 76288, 42, []⟩,
   ⟨(some 46), .pick (.t 42) (.k (.bool true)) (.t 45), (some (some 38, true)), 76544, 43, []⟩,
   ⟨(some 47), .pick (.t 38) (.t 46) (.k (.bool false)), (some (some 35, true)), 76800, 44, []⟩,
   ⟨(some 48), .not (.t 47), (some (some 35, true)), 77056, 45, []⟩,
   ⟨(some 49), .pick (.t 35) (.t 48) (.k (.bool false)), none, 77312, 46, []⟩,
   ⟨(some 2), .mv (.t 49), none, 77568, 47, []⟩])
 (.ret))⟩
/-- (loop.example/g00849/impl.PgState).adding -/
def F50 : F := ⟨2, 26, [.cell 4 12 true, .t 5],
 .seq (.reg [⟨(some 2), .box (.t 0), none, 0, 0, []⟩,
   ⟨(some 3), .box (.t 1), none, 256, 1, []⟩,
   ⟨(some 4), .alloc [(.int .i64 0), (.int .i64 0), (.int .i64 0), (.int .i64 0), (.int .i64 0), (.int .i64 0), (.nil true 5), (.nil true 4), (.nil true 10), (.int .i64 0), (.int .i64 0), (.nil true 6)], none, 512, 2, []⟩,
   ⟨(some 5), .mv (.k (.int .i64 0)), none, 768, 3, []⟩])
 (.seq (.seq (.reg [⟨(some 7), .faddr 2 (.t 3), none, 65536, 0, []⟩,
   ⟨(some 8), .load 2 true (.t 7), none, 65792, 1, []⟩,
   ⟨(some 9), .load 12 true (.t 2), none, 66048, 2, []⟩,
   ⟨(some 10), .call 70 [(.t 9)] true, none, 66304, 3, []⟩,
   ⟨(some 11), .eqv true true [.i, .i] (.t 8) (.t 10), none, 66560, 4, []⟩])
 (.cond (.t 11)
  (.seq (.reg [⟨(some 12), .build [(.int .i64 0), (.int .i64 0), (.int .i64 0), (.int .i64 0), (.int .i64 0), (.int .i64 0), (.nil true 5), (.nil true 4), (.nil true 10), (.int .i64 0), (.int .i64 0), (.nil true 6)] [], none, 131072, 0, []⟩,
    ⟨none, .store 12 (.t 4) (.t 12), none, 131328, 1, []⟩,
    ⟨(some 5), .mv (.k (.int .i64 5)), none, 131584, 2, []⟩])
  (.ret))
  (.skip)))
 (.seq (.reg [⟨(some 13), .load 12 true (.t 2), none, 196608, 0, []⟩,
   ⟨(some 14), .call 72 [(.t 13)] false, none, 196864, 1, []⟩,
   ⟨(some 6), .alloc [(.int .i64 0), (.int .i64 0), (.int .i64 0), (.int .i64 0), (.int .i64 0), (.int .i64 0), (.nil true 5), (.nil true 4), (.nil true 10), (.int .i64 0), (.int .i64 0), (.nil true 6)], none, 197120, 2, []⟩,
   ⟨none, .store 12 (.t 6) (.t 14), none, 197376, 3, []⟩])
 (.seq (.reg [⟨(some 15), .faddr 8 (.t 6), none, 262144, 0, []⟩,
   ⟨(some 16), .load 1 false (.t 15), none, 262400, 1, []⟩,
   ⟨(some 17), .load 10 true (.t 3), none, 262656, 2, []⟩,
   ⟨(some 18), .bslice true 10 [(.int .i64 0), (.int .i64 0), (.int .i64 0), (.int .i64 0), (.str ByteArray.empty), (.bool false), (.int .i64 0), (.int .i64 0), (.int .i64 0), (.int .i64 0)] 1 [(0, (.t 17))], none, 262912, 3, []⟩,
   ⟨(some 19), .app true 10 88 (.t 16) (.t 18), none, 263168, 4, []⟩,
   ⟨(some 20), .faddr 8 (.t 6), none, 263424, 5, []⟩,
   ⟨none, .store 1 (.t 20) (.t 19), none, 263680, 6, []⟩])
 (.seq (.seq (.reg [⟨(some 21), .load 12 true (.t 6), none, 327680, 0, []⟩,
   ⟨(some 22), .call 68 [(.t 21)] true, none, 327936, 1, []⟩,
   ⟨(some 23), .not (.t 22), none, 328192, 2, []⟩])
 (.cond (.t 23)
  (.seq (.reg [⟨(some 24), .build [(.int .i64 0), (.int .i64 0), (.int .i64 0), (.int .i64 0), (.int .i64 0), (.int .i64 0), (.nil true 5), (.nil true 4), (.nil true 10), (.int .i64 0), (.int .i64 0), (.nil true 6)] [], none, 393216, 0, []⟩,
    ⟨none, .store 12 (.t 4) (.t 24), none, 393472, 1, []⟩,
    ⟨(some 5), .mv (.k (.int .i64 4)), none, 393728, 2, []⟩])
  (.ret))
  (.skip)))
 (.seq (.reg [⟨(some 25), .load 12 true (.t 6), none, 458752, 0, []⟩,
   ⟨none, .store 12 (.t 4) (.t 25), none, 459008, 1, []⟩,
   ⟨(some 5), .mv (.k (.int .i64 0)), none, 459264, 2, []⟩])
 (.ret))))))⟩
/-- loop.example/g00849/laws.szHead -/
def F51 : F := ⟨2, 13, [.t 4],
 .seq (.reg [⟨(some 2), .box (.t 0), none, 0, 0, []⟩,
   ⟨(some 4), .mv (.k (.int .i64 0)), none, 256, 1, []⟩])
 (.seq (.reg [⟨(some 5), .mv (.t 1), none, 65536, 0, []⟩,
   ⟨(some 6), .faddr 0 (.t 2), none, 65792, 1, []⟩,
   ⟨(some 7), .load 1 false (.t 6), none, 66048, 2, []⟩,
   ⟨(some 8), .len true (.t 7), none, 66304, 3, []⟩,
   ⟨(some 9), .bin .sub (.t 5) (.t 8), none, 66560, 4, []⟩,
   ⟨(some 1), .mv (.t 9), none, 66816, 5, []⟩])
 (.seq (.seq (.reg [⟨(some 10), .mv (.t 1), none, 131072, 0, []⟩,
   ⟨(some 11), .bin .lss (.t 10) (.k (.int .i64 0)), none, 131328, 1, []⟩])
 (.cond (.t 11)
  (.seq (.reg [⟨(some 4), .mv (.k (.int .i64 (-1))), none, 196608, 0, []⟩])
  (.ret))
  (.skip)))
 (.seq (.reg [⟨(some 12), .mv (.t 1), none, 262144, 0, []⟩,
   ⟨(some 4), .mv (.t 12), none, 262400, 1, []⟩])
 (.ret))))⟩
/-- loop.example/g00849/laws.szChunk -/
def F52 : F := ⟨2, 20, [.t 4],
 .seq (.reg [⟨(some 2), .box (.t 0), none, 0, 0, []⟩,
   ⟨(some 4), .mv (.k (.int .i64 0)), none, 256, 1, []⟩])
 (.seq (.reg [⟨(some 5), .mv (.t 1), none, 65536, 0, []⟩,
   ⟨(some 6), .faddr 0 (.t 2), none, 65792, 1, []⟩,
   ⟨(some 7), .load 1 false (.t 6), none, 66048, 2, []⟩,
   ⟨(some 8), .len true (.t 7), none, 66304, 3, []⟩,
   ⟨(some 9), .bin .sub (.t 5) (.t 8), none, 66560, 4, []⟩,
   ⟨(some 1), .mv (.t 9), none, 66816, 5, []⟩])
 (.seq (.seq (.reg [⟨(some 10), .mv (.t 1), none, 131072, 0, []⟩,
   ⟨(some 11), .bin .lss (.t 10) (.k (.int .i64 0)), none, 131328, 1, []⟩])
 (.cond (.t 11)
  (.seq (.reg [⟨(some 4), .mv (.k (.int .i64 (-1))), none, 196608, 0, []⟩])
  (.ret))
  (.skip)))
 (.seq (.reg [⟨(some 12), .mv (.t 1), none, 262144, 0, []⟩,
   ⟨(some 13), .faddr 5 (.t 2), none, 262400, 1, []⟩,
   ⟨(some 14), .load 1 false (.t 13), none, 262656, 2, []⟩,
   ⟨(some 15), .len true (.t 14), none, 262912, 3, []⟩,
   ⟨(some 16), .bin .sub (.t 12) (.t 15), none, 263168, 4, []⟩,
   ⟨(some 1), .mv (.t 16), none, 263424, 5, []⟩])
 (.seq (.seq (.reg [⟨(some 17), .mv (.t 1), none, 327680, 0, []⟩,
   ⟨(some 18), .bin .lss (.t 17) (.k (.int .i64 0)), none, 327936, 1, []⟩])
 (.cond (.t 18)
  (.seq (.reg [⟨(some 4), .mv (.k (.int .i64 (-1))), none, 393216, 0, []⟩])
  (.ret))
  (.skip)))
 (.seq (.reg [⟨(some 19), .mv (.t 1), none, 458752, 0, []⟩,
   ⟨(some 4), .mv (.t 19), none, 459008, 1, []⟩])
 (.ret))))))⟩
/-- loop.example/g00849/spec.l17Pg -/
def F53 : F := ⟨1, 11, [.t 2],
 .seq (.reg [⟨(some 1), .box (.t 0), none, 0, 0, []⟩,
   ⟨(some 2), .mv (.k (.bool false)), none, 256, 1, []⟩])
 (.seq (.reg [⟨(some 3), .faddr 0 (.t 1), none, 65536, 0, []⟩,
   ⟨(some 4), .load 1 false (.t 3), none, 65792, 1, []⟩,
   ⟨(some 5), .call 54 [(.t 4), (.k (.int .i64 1)), (.k (.int .i64 4))] true, none, 66048, 2, []⟩,
   ⟨(some 6), .mv (.t 5), none, 66304, 3, []⟩,
   ⟨(some 7), .faddr 1 (.t 1), (some (some 6, true)), 66560, 4, []⟩,
   ⟨(some 8), .load 1 false (.t 7), (some (some 6, true)), 66816, 5, []⟩,
   ⟨(some 9), .call 54 [(.t 8), (.k (.int .i64 0)), (.k (.int .i64 15))] true, (some (some 6, true)), 67072, 6, []⟩,
   ⟨(some 10), .pick (.t 6) (.t 9) (.k (.bool false)), none, 67328, 7, []⟩,
   ⟨(some 2), .mv (.t 10), none, 67584, 8, []⟩])
 (.ret))⟩
/-- loop.example/g00849/spec.l00In -/
def F54 : F := ⟨3, 15, [.t 6],
 .seq (.reg [⟨(some 6), .mv (.k (.bool false)), none, 0, 0, []⟩])
 (.seq (.reg [⟨(some 7), .mv (.t 0), none, 65536, 0, []⟩,
   ⟨(some 8), .mv (.t 1), none, 65792, 1, []⟩,
   ⟨(some 9), .bin .geq (.t 7) (.t 8), none, 66048, 2, []⟩,
   ⟨(some 10), .mv (.t 9), none, 66304, 3, []⟩,
   ⟨(some 11), .mv (.t 0), (some (some 10, true)), 66560, 4, []⟩,
   ⟨(some 12), .mv (.t 2), (some (some 10, true)), 66816, 5, []⟩,
   ⟨(some 13), .bin .leq (.t 11) (.t 12), (some (some 10, true)), 67072, 6, []⟩,
   ⟨(some 14), .pick (.t 10) (.t 13) (.k (.bool false)), none, 67328, 7, []⟩,
   ⟨(some 6), .mv (.t 14), none, 67584, 8, []⟩])
 (.ret))⟩
/-- loop.example/g00849/spec.l17Ver -/
def F55 : F := ⟨1, 15, [.t 2],
 .seq (.reg [⟨(some 1), .box (.t 0), none, 0, 0, []⟩,
   ⟨(some 2), .mv (.k (.bool false)), none, 256, 1, []⟩])
 (.seq (.reg [⟨(some 3), .load 2 true (.t 1), none, 65536, 0, []⟩,
   ⟨(some 4), .call 84 [(.t 3)] true, none, 65792, 1, []⟩,
   ⟨(some 5), .mv (.t 4), none, 66048, 2, []⟩,
   ⟨(some 6), .faddr 0 (.t 1), (some (some 5, false)), 66304, 3, []⟩,
   ⟨(some 7), .load 1 false (.t 6), (some (some 5, false)), 66560, 4, []⟩,
   ⟨(some 8), .call 54 [(.t 7), (.k (.int .i64 1)), (.k (.int .i64 60))] true, (some (some 5, false)), 66816, 5, []⟩,
   ⟨(some 9), .mv (.t 8), (some (some 5, false)), 67072, 6, []⟩,
   ⟨(some 10), .faddr 1 (.t 1), (some (some 9, true)), 67328, 7, []⟩,
   ⟨(some 11), .load 1 false (.t 10), (some (some 9, true)), 67584, 8, []⟩,
   ⟨(some 12), .call 54 [(.t 11), (.k (.int .i64 1)), (.k (.int .i64 1000))] true, (some (some 9, true)), 67840, 9, []⟩,
   ⟨(some 13), .pick (.t 9) (.t 12) (.k (.bool false)), (some (some 5, false)), 68096, 10, []⟩,
   ⟨(some 14), .pick (.t 5) (.k (.bool true)) (.t 13), none, 68352, 11, []⟩,
   ⟨(some 2), .mv (.t 14), none, 68608, 12, []⟩])
 (.ret))⟩
/-- loop.example/g00849/spec.l17Heads -/
def F56 : F := ⟨2, 67, [.t 4],
 .seq (.reg [⟨(some 3), .box (.t 1), none, 0, 0, []⟩,
   ⟨(some 4), .mv (.k (.bool false)), none, 256, 1, []⟩])
 (.seq (.seq (.reg [⟨(some 5), .mv (.k (.int .i64 0)), none, 65536, 0, []⟩])
 (.block 0 (.loop [0, 3, 5] [0, 1, 2, 3, 4, 5]
  (.seq (.seq (.reg [⟨(some 7), .mv (.t 5), none, 131072, 0, []⟩,
    ⟨(some 8), .mv (.t 0), none, 131328, 1, []⟩,
    ⟨(some 9), .len false (.t 8), none, 131584, 2, []⟩,
    ⟨(some 10), .bin .lss (.t 7) (.t 9), none, 131840, 3, []⟩,
    ⟨(some 11), .mv (.t 10), none, 132096, 4, []⟩,
    ⟨(some 12), .mv (.t 5), (some (some 11, true)), 132352, 5, []⟩,
    ⟨(some 13), .bin .leq (.t 12) (.k (.int .i64 16)), (some (some 11, true)), 132608, 6, []⟩,
    ⟨(some 14), .pick (.t 11) (.t 13) (.k (.bool false)), none, 132864, 7, []⟩])
  (.cond (.t 14)
   (.skip)
   (.exit 0)))
  (.seq (.block 1 (.seq (.reg [⟨(some 17), .mv (.t 0), none, 262144, 0, []⟩,
    ⟨(some 18), .mv (.t 5), none, 262400, 1, []⟩,
    ⟨(some 19), .iaddr 5 (.t 17) (.t 18), none, 262656, 2, []⟩,
    ⟨(some 20), .load 5 true (.t 19), none, 262912, 3, []⟩,
    ⟨(some 6), .alloc [(.str ByteArray.empty), (.int .i64 0), (.int .i64 0), (.int .i64 0), (.int .i64 0)], none, 263168, 4, []⟩,
    ⟨none, .store 5 (.t 6) (.t 20), none, 263424, 5, []⟩])
  (.seq (.reg [⟨(some 21), .faddr 0 (.t 6), none, 327680, 0, []⟩,
    ⟨(some 22), .load 1 false (.t 21), none, 327936, 1, []⟩,
    ⟨(some 23), .call 78 [(.t 22)] true, none, 328192, 2, []⟩,
    ⟨(some 24), .not (.t 23), none, 328448, 3, []⟩,
    ⟨(some 25), .mv (.t 24), none, 328704, 4, []⟩,
    ⟨(some 26), .mv (.t 5), (some (some 25, false)), 328960, 5, []⟩,
    ⟨(some 27), .bin .gtr (.t 26) (.k (.int .i64 0)), (some (some 25, false)), 329216, 6, []⟩,
    ⟨(some 28), .mv (.t 27), (some (some 25, false)), 329472, 7, []⟩,
    ⟨(some 29), .mv (.t 0), (some (some 28, true)), 329728, 8, []⟩,
    ⟨(some 30), .mv (.t 5), (some (some 28, true)), 329984, 9, []⟩,
    ⟨(some 31), .bin .sub (.t 30) (.k (.int .i64 1)), (some (some 28, true)), 330240, 10, []⟩,
    ⟨(some 32), .iaddr 5 (.t 29) (.t 31), (some (some 28, true)), 330496, 11, []⟩,
    ⟨(some 33), .faddr 0 (.t 32), (some (some 28, true)), 330752, 12, []⟩,
    ⟨(some 34), .load 1 false (.t 33), (some (some 28, true)), 331008, 13, []⟩,
    ⟨(some 35), .faddr 0 (.t 6), (some (some 28, true)), 331264, 14, []⟩,
    ⟨(some 36), .load 1 false (.t 35), (some (some 28, true)), 331520, 15, []⟩,
    ⟨(some 37), .bin .geq (.t 34) (.t 36), (some (some 28, true)), 331776, 16, []⟩,
    ⟨(some 38), .pick (.t 28) (.t 37) (.k (.bool false)), (some (some 25, false)), 332032, 17, []⟩,
    ⟨(some 39), .pick (.t 25) (.k (.bool true)) (.t 38), none, 332288, 18, []⟩,
    ⟨(some 40), .mv (.t 39), none, 332544, 19, []⟩,
    ⟨(some 41), .faddr 1 (.t 6), (some (some 40, false)), 332800, 20, []⟩,
    ⟨(some 42), .load 2 true (.t 41), (some (some 40, false)), 333056, 21, []⟩,
    ⟨(some 43), .call 85 [(.t 42)] true, (some (some 40, false)), 333312, 22, []⟩,
    ⟨(some 44), .not (.t 43), (some (some 40, false)), 333568, 23, []⟩,
    ⟨(some 45), .pick (.t 40) (.k (.bool true)) (.t 44), none, 333824, 24, []⟩,
    ⟨(some 46), .mv (.t 45), none, 334080, 25, []⟩,
    ⟨(some 47), .load 2 true (.t 3), (some (some 46, false)), 334336, 26, []⟩,
    ⟨(some 48), .faddr 1 (.t 6), (some (some 46, false)), 334592, 27, []⟩,
    ⟨(some 49), .load 2 true (.t 48), (some (some 46, false)), 334848, 28, []⟩,
    ⟨(some 50), .call 59 [(.t 47), (.t 49)] true, (some (some 46, false)), 335104, 29, []⟩,
    ⟨(some 51), .pick (.t 46) (.k (.bool true)) (.t 50), none, 335360, 30, []⟩,
    ⟨(some 52), .mv (.t 51), none, 335616, 31, []⟩,
    ⟨(some 53), .faddr 3 (.t 6), (some (some 52, false)), 335872, 32, []⟩,
    ⟨(some 54), .load 1 false (.t 53), (some (some 52, false)), 336128, 33, []⟩,
    ⟨(some 55), .call 54 [(.t 54), (.k (.int .i64 0)), (.k (.int .i64 64))] true, (some (some 52, false)), 336384, 34, []⟩,
    ⟨(some 56), .not (.t 55), (some (some 52, false)), 336640, 35, []⟩,
    ⟨(some 57), .pick (.t 52) (.k (.bool true)) (.t 56), none, 336896, 36, []⟩,
    ⟨(some 58), .mv (.t 57), none, 337152, 37, []⟩,
    ⟨(some 59), .faddr 4 (.t 6), (some (some 58, false)), 337408, 38, []⟩,
    ⟨(some 60), .load 1 false (.t 59), (some (some 58, false)), 337664, 39, []⟩,
    ⟨(some 61), .call 80 [(.t 60)] true, (some (some 58, false)), 337920, 40, []⟩,
    ⟨(some 62), .not (.t 61), (some (some 58, false)), 338176, 41, []⟩,
    ⟨(some 63), .pick (.t 58) (.k (.bool true)) (.t 62), none, 338432, 42, []⟩])
  (.cond (.t 63)
   (.seq (.reg [⟨(some 4), .mv (.k (.bool false)), none, 393216, 0, []⟩])
   (.ret))
   (.skip)))))
  (.reg [⟨(some 15), .mv (.t 5), none, 196608, 0, []⟩,
    ⟨(some 16), .bin .add (.t 15) (.k (.int .i64 1)), none, 196864, 1, []⟩,
    ⟨(some 5), .mv (.t 16), none, 197120, 2, []⟩]))))))
 (.seq (.reg [⟨(some 64), .mv (.t 0), none, 458752, 0, []⟩,
   ⟨(some 65), .len false (.t 64), none, 459008, 1, []⟩,
   ⟨(some 66), .bin .leq (.t 65) (.k (.int .i64 16)), none, 459264, 2, []⟩,
   ⟨(some 4), .mv (.t 66), none, 459520, 3, []⟩])
 (.ret)))⟩
/-- loop.example/g00849/spec.l17Lasts -/
def F57 : F := ⟨2, 61, [.t 4],
 .seq (.reg [⟨(some 3), .box (.t 1), none, 0, 0, []⟩,
   ⟨(some 4), .mv (.k (.bool false)), none, 256, 1, []⟩])
 (.seq (.seq (.reg [⟨(some 5), .mv (.k (.int .i64 0)), none, 65536, 0, []⟩])
 (.block 0 (.loop [0, 3, 5] [0, 1, 2, 3, 4, 5]
  (.seq (.seq (.reg [⟨(some 7), .mv (.t 5), none, 131072, 0, []⟩,
    ⟨(some 8), .mv (.t 0), none, 131328, 1, []⟩,
    ⟨(some 9), .len false (.t 8), none, 131584, 2, []⟩,
    ⟨(some 10), .bin .lss (.t 7) (.t 9), none, 131840, 3, []⟩,
    ⟨(some 11), .mv (.t 10), none, 132096, 4, []⟩,
    ⟨(some 12), .mv (.t 5), (some (some 11, true)), 132352, 5, []⟩,
    ⟨(some 13), .bin .leq (.t 12) (.k (.int .i64 6)), (some (some 11, true)), 132608, 6, []⟩,
    ⟨(some 14), .pick (.t 11) (.t 13) (.k (.bool false)), none, 132864, 7, []⟩])
  (.cond (.t 14)
   (.skip)
   (.exit 0)))
  (.seq (.block 1 (.seq (.reg [⟨(some 17), .mv (.t 0), none, 262144, 0, []⟩,
    ⟨(some 18), .mv (.t 5), none, 262400, 1, []⟩,
    ⟨(some 19), .iaddr 4 (.t 17) (.t 18), none, 262656, 2, []⟩,
    ⟨(some 20), .load 4 true (.t 19), none, 262912, 3, []⟩,
    ⟨(some 6), .alloc [(.int .i64 0), (.int .i64 0), (.int .i64 0), (.int .i64 0)], none, 263168, 4, []⟩,
    ⟨none, .store 4 (.t 6) (.t 20), none, 263424, 5, []⟩])
  (.seq (.reg [⟨(some 21), .faddr 0 (.t 6), none, 327680, 0, []⟩,
    ⟨(some 22), .load 1 false (.t 21), none, 327936, 1, []⟩,
    ⟨(some 23), .call 86 [(.t 22)] true, none, 328192, 2, []⟩,
    ⟨(some 24), .not (.t 23), none, 328448, 3, []⟩,
    ⟨(some 25), .mv (.t 24), none, 328704, 4, []⟩,
    ⟨(some 26), .mv (.t 5), (some (some 25, false)), 328960, 5, []⟩,
    ⟨(some 27), .bin .gtr (.t 26) (.k (.int .i64 0)), (some (some 25, false)), 329216, 6, []⟩,
    ⟨(some 28), .mv (.t 27), (some (some 25, false)), 329472, 7, []⟩,
    ⟨(some 29), .mv (.t 0), (some (some 28, true)), 329728, 8, []⟩,
    ⟨(some 30), .mv (.t 5), (some (some 28, true)), 329984, 9, []⟩,
    ⟨(some 31), .bin .sub (.t 30) (.k (.int .i64 1)), (some (some 28, true)), 330240, 10, []⟩,
    ⟨(some 32), .iaddr 4 (.t 29) (.t 31), (some (some 28, true)), 330496, 11, []⟩,
    ⟨(some 33), .faddr 0 (.t 32), (some (some 28, true)), 330752, 12, []⟩,
    ⟨(some 34), .load 1 false (.t 33), (some (some 28, true)), 331008, 13, []⟩,
    ⟨(some 35), .faddr 0 (.t 6), (some (some 28, true)), 331264, 14, []⟩,
    ⟨(some 36), .load 1 false (.t 35), (some (some 28, true)), 331520, 15, []⟩,
    ⟨(some 37), .bin .geq (.t 34) (.t 36), (some (some 28, true)), 331776, 16, []⟩,
    ⟨(some 38), .pick (.t 28) (.t 37) (.k (.bool false)), (some (some 25, false)), 332032, 17, []⟩,
    ⟨(some 39), .pick (.t 25) (.k (.bool true)) (.t 38), none, 332288, 18, []⟩,
    ⟨(some 40), .mv (.t 39), none, 332544, 19, []⟩,
    ⟨(some 41), .faddr 1 (.t 6), (some (some 40, false)), 332800, 20, []⟩,
    ⟨(some 42), .load 1 false (.t 41), (some (some 40, false)), 333056, 21, []⟩,
    ⟨(some 43), .call 54 [(.t 42), (.k (.int .i64 1)), (.k (.int .i64 1000))] true, (some (some 40, false)), 333312, 22, []⟩,
    ⟨(some 44), .not (.t 43), (some (some 40, false)), 333568, 23, []⟩,
    ⟨(some 45), .pick (.t 40) (.k (.bool true)) (.t 44), none, 333824, 24, []⟩,
    ⟨(some 46), .mv (.t 45), none, 334080, 25, []⟩,
    ⟨(some 47), .faddr 2 (.t 6), (some (some 46, false)), 334336, 26, []⟩,
    ⟨(some 48), .load 2 true (.t 47), (some (some 46, false)), 334592, 27, []⟩,
    ⟨(some 49), .call 85 [(.t 48)] true, (some (some 46, false)), 334848, 28, []⟩,
    ⟨(some 50), .not (.t 49), (some (some 46, false)), 335104, 29, []⟩,
    ⟨(some 51), .pick (.t 46) (.k (.bool true)) (.t 50), none, 335360, 30, []⟩,
    ⟨(some 52), .mv (.t 51), none, 335616, 31, []⟩,
    ⟨(some 53), .load 2 true (.t 3), (some (some 52, false)), 335872, 32, []⟩,
    ⟨(some 54), .faddr 2 (.t 6), (some (some 52, false)), 336128, 33, []⟩,
    ⟨(some 55), .load 2 true (.t 54), (some (some 52, false)), 336384, 34, []⟩,
    ⟨(some 56), .call 59 [(.t 53), (.t 55)] true, (some (some 52, false)), 336640, 35, []⟩,
    ⟨(some 57), .pick (.t 52) (.k (.bool true)) (.t 56), none, 336896, 36, []⟩])
  (.cond (.t 57)
   (.seq (.reg [⟨(some 4), .mv (.k (.bool false)), none, 393216, 0, []⟩])
   (.ret))
   (.skip)))))
  (.reg [⟨(some 15), .mv (.t 5), none, 196608, 0, []⟩,
    ⟨(some 16), .bin .add (.t 15) (.k (.int .i64 1)), none, 196864, 1, []⟩,
    ⟨(some 5), .mv (.t 16), none, 197120, 2, []⟩]))))))
 (.seq (.reg [⟨(some 58), .mv (.t 0), none, 458752, 0, []⟩,
   ⟨(some 59), .len false (.t 58), none, 459008, 1, []⟩,
   ⟨(some 60), .bin .leq (.t 59) (.k (.int .i64 6)), none, 459264, 2, []⟩,
   ⟨(some 4), .mv (.t 60), none, 459520, 3, []⟩])
 (.ret)))⟩
/-- loop.example/g00849/spec.l17Log -/
def F58 : F := ⟨1, 48, [.t 2],
 .seq (.reg [⟨(some 1), .box (.t 0), none, 0, 0, []⟩,
   ⟨(some 2), .mv (.k (.bool false)), none, 256, 1, []⟩])
 (.seq (.reg [⟨(some 7), .faddr 4 (.t 1), none, 65536, 0, []⟩,
   ⟨(some 8), .load 2 true (.t 7), none, 65792, 1, []⟩,
   ⟨(some 3), .alloc [(.int .i64 0), (.int .i64 0)], none, 66048, 2, []⟩,
   ⟨none, .store 2 (.t 3) (.t 8), none, 66304, 3, []⟩])
 (.seq (.reg [⟨(some 9), .faddr 6 (.t 1), none, 131072, 0, []⟩,
   ⟨(some 10), .load 1 false (.t 9), none, 131328, 1, []⟩,
   ⟨(some 4), .mv (.t 10), none, 131584, 2, []⟩])
 (.seq (.seq (.reg [⟨(some 5), .mv (.k (.int .i64 0)), none, 196608, 0, []⟩])
 (.block 0 (.loop [1, 3, 4, 5] [0, 66048, 131328]
  (.seq (.seq (.seq (.reg [⟨(some 11), .mv (.t 5), none, 262144, 0, []⟩,
    ⟨(some 12), .faddr 8 (.t 1), none, 262400, 1, []⟩,
    ⟨(some 13), .load 1 false (.t 12), none, 262656, 2, []⟩,
    ⟨(some 14), .len false (.t 13), none, 262912, 3, []⟩,
    ⟨(some 15), .bin .lss (.t 11) (.t 14), none, 263168, 4, []⟩,
    ⟨(some 16), .mv (.t 15), none, 263424, 5, []⟩,
    ⟨(some 17), .mv (.t 5), (some (some 16, true)), 263680, 6, []⟩,
    ⟨(some 18), .bin .leq (.t 17) (.k (.int .i64 24)), (some (some 16, true)), 263936, 7, []⟩,
    ⟨(some 19), .pick (.t 16) (.t 18) (.k (.bool false)), none, 264192, 8, []⟩])
  (.cond (.t 19)
   (.skip)
   (.exit 0)))
  (.seq (.block 1 (.seq (.reg [⟨(some 22), .faddr 8 (.t 1), none, 393216, 0, []⟩,
    ⟨(some 23), .load 1 false (.t 22), none, 393472, 1, []⟩,
    ⟨(some 24), .mv (.t 5), none, 393728, 2, []⟩,
    ⟨(some 25), .iaddr 10 (.t 23) (.t 24), none, 393984, 3, []⟩,
    ⟨(some 26), .load 10 true (.t 25), none, 394240, 4, []⟩,
    ⟨(some 6), .alloc [(.int .i64 0), (.int .i64 0), (.int .i64 0), (.int .i64 0), (.str ByteArray.empty), (.bool false), (.int .i64 0), (.int .i64 0), (.int .i64 0), (.int .i64 0)], none, 394496, 5, []⟩,
    ⟨none, .store 10 (.t 6) (.t 26), none, 394752, 6, []⟩])
  (.seq (.seq (.reg [⟨(some 27), .load 10 true (.t 6), none, 458752, 0, []⟩,
    ⟨(some 28), .call 44 [(.t 27)] true, none, 459008, 1, []⟩,
    ⟨(some 29), .not (.t 28), none, 459264, 2, []⟩,
    ⟨(some 30), .mv (.t 29), none, 459520, 3, []⟩,
    ⟨(some 31), .faddr 2 (.t 6), (some (some 30, false)), 459776, 4, []⟩,
    ⟨(some 32), .load 2 true (.t 31), (some (some 30, false)), 460032, 5, []⟩,
    ⟨(some 33), .load 2 true (.t 3), (some (some 30, false)), 460288, 6, []⟩,
    ⟨(some 34), .eqv true true [.i, .i] (.t 32) (.t 33), (some (some 30, false)), 460544, 7, []⟩,
    ⟨(some 35), .pick (.t 30) (.k (.bool true)) (.t 34), none, 460800, 8, []⟩])
  (.cond (.t 35)
   (.seq (.reg [⟨(some 2), .mv (.k (.bool false)), none, 524288, 0, []⟩])
   (.ret))
   (.skip)))
  (.seq (.reg [⟨(some 36), .faddr 0 (.t 6), none, 589824, 0, []⟩,
    ⟨(some 37), .load 2 true (.t 36), none, 590080, 1, []⟩,
    ⟨none, .store 2 (.t 3) (.t 37), none, 590336, 2, []⟩])
  (.seq (.reg [⟨(some 38), .mv (.t 4), none, 655360, 0, []⟩,
    ⟨(some 39), .load 10 true (.t 6), none, 655616, 1, []⟩,
    ⟨(some 40), .call 46 [(.t 38), (.t 39)] false, none, 655872, 2, []⟩,
    ⟨(some 4), .mv (.t 40), none, 656128, 3, []⟩])
  (.seq (.reg [⟨(some 41), .mv (.t 4), none, 720896, 0, []⟩,
    ⟨(some 42), .len false (.t 41), none, 721152, 1, []⟩,
    ⟨(some 43), .bin .gtr (.t 42) (.k (.int .i64 16)), none, 721408, 2, []⟩])
  (.cond (.t 43)
   (.seq (.reg [⟨(some 2), .mv (.k (.bool false)), none, 786432, 0, []⟩])
   (.ret))
   (.skip))))))))
  (.reg [⟨(some 20), .mv (.t 5), none, 327680, 0, []⟩,
    ⟨(some 21), .bin .add (.t 20) (.k (.int .i64 1)), none, 327936, 1, []⟩,
    ⟨(some 5), .mv (.t 21), none, 328192, 2, []⟩])))
  (.ren 655872 131328)))))
 (.seq (.reg [⟨(some 44), .faddr 8 (.t 1), none, 851968, 0, []⟩,
   ⟨(some 45), .load 1 false (.t 44), none, 852224, 1, []⟩,
   ⟨(some 46), .len false (.t 45), none, 852480, 2, []⟩,
   ⟨(some 47), .bin .leq (.t 46) (.k (.int .i64 24)), none, 852736, 3, []⟩,
   ⟨(some 2), .mv (.t 47), none, 852992, 4, []⟩])
 (.ret)))))⟩
/-- loop.example/g00849/spec.VerLess -/
def F59 : F := ⟨2, 24, [.t 4],
 .seq (.reg [⟨(some 2), .box (.t 0), none, 0, 0, []⟩,
   ⟨(some 3), .box (.t 1), none, 256, 1, []⟩,
   ⟨(some 4), .mv (.k (.bool false)), none, 512, 2, []⟩])
 (.seq (.reg [⟨(some 5), .faddr 0 (.t 2), none, 65536, 0, []⟩,
   ⟨(some 6), .load 1 false (.t 5), none, 65792, 1, []⟩,
   ⟨(some 7), .faddr 0 (.t 3), none, 66048, 2, []⟩,
   ⟨(some 8), .load 1 false (.t 7), none, 66304, 3, []⟩,
   ⟨(some 9), .bin .lss (.t 6) (.t 8), none, 66560, 4, []⟩,
   ⟨(some 10), .mv (.t 9), none, 66816, 5, []⟩,
   ⟨(some 11), .faddr 0 (.t 2), (some (some 10, false)), 67072, 6, []⟩,
   ⟨(some 12), .load 1 false (.t 11), (some (some 10, false)), 67328, 7, []⟩,
   ⟨(some 13), .faddr 0 (.t 3), (some (some 10, false)), 67584, 8, []⟩,
   ⟨(some 14), .load 1 false (.t 13), (some (some 10, false)), 67840, 9, []⟩,
   ⟨(some 15), .bin .eql (.t 12) (.t 14), (some (some 10, false)), 68096, 10, []⟩,
   ⟨(some 16), .mv (.t 15), (some (some 10, false)), 68352, 11, []⟩,
   ⟨(some 17), .faddr 1 (.t 2), (some (some 16, true)), 68608, 12, []⟩,
   ⟨(some 18), .load 1 false (.t 17), (some (some 16, true)), 68864, 13, []⟩,
   ⟨(some 19), .faddr 1 (.t 3), (some (some 16, true)), 69120, 14, []⟩,
   ⟨(some 20), .load 1 false (.t 19), (some (some 16, true)), 69376, 15, []⟩,
   ⟨(some 21), .bin .lss (.t 18) (.t 20), (some (some 16, true)), 69632, 16, []⟩,
   ⟨(some 22), .pick (.t 16) (.t 21) (.k (.bool false)), (some (some 10, false)), 69888, 17, []⟩,
   ⟨(some 23), .pick (.t 10) (.k (.bool true)) (.t 22), none, 70144, 18, []⟩,
   ⟨(some 4), .mv (.t 23), none, 70400, 19, []⟩])
 (.ret))⟩
/-- loop.example/g00849/spec.l17Chunks -/
def F60 : F := ⟨1, 40, [.t 2],
 .seq (.reg [⟨(some 2), .mv (.k (.bool false)), none, 0, 0, []⟩])
 (.seq (.seq (.reg [⟨(some 3), .mv (.k (.int .i64 0)), none, 65536, 0, []⟩])
 (.block 0 (.loop [0, 3] []
  (.seq (.seq (.reg [⟨(some 4), .mv (.t 3), none, 131072, 0, []⟩,
    ⟨(some 5), .mv (.t 0), none, 131328, 1, []⟩,
    ⟨(some 6), .len false (.t 5), none, 131584, 2, []⟩,
    ⟨(some 7), .bin .lss (.t 4) (.t 6), none, 131840, 3, []⟩,
    ⟨(some 8), .mv (.t 7), none, 132096, 4, []⟩,
    ⟨(some 9), .mv (.t 3), (some (some 8, true)), 132352, 5, []⟩,
    ⟨(some 10), .bin .leq (.t 9) (.k (.int .i64 160)), (some (some 8, true)), 132608, 6, []⟩,
    ⟨(some 11), .pick (.t 8) (.t 10) (.k (.bool false)), none, 132864, 7, []⟩])
  (.cond (.t 11)
   (.skip)
   (.exit 0)))
  (.seq (.block 1 (.seq (.reg [⟨(some 14), .mv (.t 0), none, 262144, 0, []⟩,
    ⟨(some 15), .mv (.t 3), none, 262400, 1, []⟩,
    ⟨(some 16), .iaddr 6 (.t 14) (.t 15), none, 262656, 2, []⟩,
    ⟨(some 17), .load 6 true (.t 16), none, 262912, 3, []⟩,
    ⟨(some 18), .call 87 [(.t 17)] true, none, 263168, 4, []⟩,
    ⟨(some 19), .not (.t 18), none, 263424, 5, []⟩,
    ⟨(some 20), .mv (.t 19), none, 263680, 6, []⟩,
    ⟨(some 21), .mv (.t 3), (some (some 20, false)), 263936, 7, []⟩,
    ⟨(some 22), .bin .gtr (.t 21) (.k (.int .i64 0)), (some (some 20, false)), 264192, 8, []⟩,
    ⟨(some 23), .mv (.t 22), (some (some 20, false)), 264448, 9, []⟩,
    ⟨(some 24), .mv (.t 0), (some (some 23, true)), 264704, 10, []⟩,
    ⟨(some 25), .mv (.t 3), (some (some 23, true)), 264960, 11, []⟩,
    ⟨(some 26), .bin .sub (.t 25) (.k (.int .i64 1)), (some (some 23, true)), 265216, 12, []⟩,
    ⟨(some 27), .iaddr 6 (.t 24) (.t 26), (some (some 23, true)), 265472, 13, []⟩,
    ⟨(some 28), .load 6 true (.t 27), (some (some 23, true)), 265728, 14, []⟩,
    ⟨(some 29), .mv (.t 0), (some (some 23, true)), 265984, 15, []⟩,
    ⟨(some 30), .mv (.t 3), (some (some 23, true)), 266240, 16, []⟩,
    ⟨(some 31), .iaddr 6 (.t 29) (.t 30), (some (some 23, true)), 266496, 17, []⟩,
    ⟨(some 32), .load 6 true (.t 31), (some (some 23, true)), 266752, 18, []⟩,
    ⟨(some 33), .call 88 [(.t 28), (.t 32)] true, (some (some 23, true)), 267008, 19, []⟩,
    ⟨(some 34), .not (.t 33), (some (some 23, true)), 267264, 20, []⟩,
    ⟨(some 35), .pick (.t 23) (.t 34) (.k (.bool false)), (some (some 20, false)), 267520, 21, []⟩,
    ⟨(some 36), .pick (.t 20) (.k (.bool true)) (.t 35), none, 267776, 22, []⟩])
  (.cond (.t 36)
   (.seq (.reg [⟨(some 2), .mv (.k (.bool false)), none, 327680, 0, []⟩])
   (.ret))
   (.skip))))
  (.reg [⟨(some 12), .mv (.t 3), none, 196608, 0, []⟩,
    ⟨(some 13), .bin .add (.t 12) (.k (.int .i64 1)), none, 196864, 1, []⟩,
    ⟨(some 3), .mv (.t 13), none, 197120, 2, []⟩]))))))
 (.seq (.reg [⟨(some 37), .mv (.t 0), none, 393216, 0, []⟩,
   ⟨(some 38), .len false (.t 37), none, 393472, 1, []⟩,
   ⟨(some 39), .bin .leq (.t 38) (.k (.int .i64 160)), none, 393728, 2, []⟩,
   ⟨(some 2), .mv (.t 39), none, 393984, 3, []⟩])
 (.ret)))⟩
/-- loop.example/g00849/laws.toHead -/
def F61 : F := ⟨1, 18, [.cell 2 5 true],
 .seq (.reg [⟨(some 1), .box (.t 0), none, 0, 0, []⟩,
   ⟨(some 2), .alloc [(.str ByteArray.empty), (.int .i64 0), (.int .i64 0), (.int .i64 0), (.int .i64 0)], none, 256, 1, []⟩])
 (.seq (.reg [⟨(some 3), .alloc [(.str ByteArray.empty), (.int .i64 0), (.int .i64 0), (.int .i64 0), (.int .i64 0)], none, 65536, 0, []⟩])
 (.seq (.reg [⟨(some 4), .faddr 0 (.t 1), none, 131072, 0, []⟩,
   ⟨(some 5), .load 1 false (.t 4), none, 131328, 1, []⟩,
   ⟨(some 6), .faddr 0 (.t 3), none, 131584, 2, []⟩,
   ⟨none, .store 1 (.t 6) (.t 5), none, 131840, 3, []⟩])
 (.seq (.reg [⟨(some 7), .faddr 1 (.t 1), none, 196608, 0, []⟩,
   ⟨(some 8), .load 2 true (.t 7), none, 196864, 1, []⟩,
   ⟨(some 9), .call 23 [(.t 8)] true, none, 197120, 2, []⟩,
   ⟨(some 10), .faddr 1 (.t 3), none, 197376, 3, []⟩,
   ⟨none, .store 2 (.t 10) (.t 9), none, 197632, 4, []⟩])
 (.seq (.reg [⟨(some 11), .faddr 3 (.t 1), none, 262144, 0, []⟩,
   ⟨(some 12), .load 1 false (.t 11), none, 262400, 1, []⟩,
   ⟨(some 13), .faddr 3 (.t 3), none, 262656, 2, []⟩,
   ⟨none, .store 1 (.t 13) (.t 12), none, 262912, 3, []⟩])
 (.seq (.reg [⟨(some 14), .faddr 4 (.t 1), none, 327680, 0, []⟩,
   ⟨(some 15), .load 1 false (.t 14), none, 327936, 1, []⟩,
   ⟨(some 16), .faddr 4 (.t 3), none, 328192, 2, []⟩,
   ⟨none, .store 1 (.t 16) (.t 15), none, 328448, 3, []⟩])
 (.seq (.reg [⟨(some 17), .load 5 true (.t 3), none, 393216, 0, []⟩,
   ⟨none, .store 5 (.t 2) (.t 17), none, 393472, 1, []⟩])
 (.ret)))))))⟩
/-- loop.example/g00849/laws.toLast -/
def F62 : F := ⟨1, 15, [.cell 2 4 true],
 .seq (.reg [⟨(some 1), .box (.t 0), none, 0, 0, []⟩,
   ⟨(some 2), .alloc [(.int .i64 0), (.int .i64 0), (.int .i64 0), (.int .i64 0)], none, 256, 1, []⟩])
 (.seq (.reg [⟨(some 3), .alloc [(.int .i64 0), (.int .i64 0), (.int .i64 0), (.int .i64 0)], none, 65536, 0, []⟩])
 (.seq (.reg [⟨(some 4), .faddr 0 (.t 1), none, 131072, 0, []⟩,
   ⟨(some 5), .load 1 false (.t 4), none, 131328, 1, []⟩,
   ⟨(some 6), .faddr 0 (.t 3), none, 131584, 2, []⟩,
   ⟨none, .store 1 (.t 6) (.t 5), none, 131840, 3, []⟩])
 (.seq (.reg [⟨(some 7), .faddr 1 (.t 1), none, 196608, 0, []⟩,
   ⟨(some 8), .load 1 false (.t 7), none, 196864, 1, []⟩,
   ⟨(some 9), .faddr 1 (.t 3), none, 197120, 2, []⟩,
   ⟨none, .store 1 (.t 9) (.t 8), none, 197376, 3, []⟩])
 (.seq (.reg [⟨(some 10), .faddr 2 (.t 1), none, 262144, 0, []⟩,
   ⟨(some 11), .load 2 true (.t 10), none, 262400, 1, []⟩,
   ⟨(some 12), .call 23 [(.t 11)] true, none, 262656, 2, []⟩,
   ⟨(some 13), .faddr 2 (.t 3), none, 262912, 3, []⟩,
   ⟨none, .store 2 (.t 13) (.t 12), none, 263168, 4, []⟩])
 (.seq (.reg [⟨(some 14), .load 4 true (.t 3), none, 327680, 0, []⟩,
   ⟨none, .store 4 (.t 2) (.t 14), none, 327936, 1, []⟩])
 (.ret))))))⟩
/-- loop.example/g00849/laws.toChunk -/
def F63 : F := ⟨1, 21, [.cell 2 6 true],
 .seq (.reg [⟨(some 1), .box (.t 0), none, 0, 0, []⟩,
   ⟨(some 2), .alloc [(.str ByteArray.empty), (.int .i64 0), (.int .i64 0), (.int .i64 0), (.int .i64 0), (.str ByteArray.empty)], none, 256, 1, []⟩])
 (.seq (.reg [⟨(some 3), .alloc [(.str ByteArray.empty), (.int .i64 0), (.int .i64 0), (.int .i64 0), (.int .i64 0), (.str ByteArray.empty)], none, 65536, 0, []⟩])
 (.seq (.reg [⟨(some 4), .faddr 0 (.t 1), none, 131072, 0, []⟩,
   ⟨(some 5), .load 1 false (.t 4), none, 131328, 1, []⟩,
   ⟨(some 6), .faddr 0 (.t 3), none, 131584, 2, []⟩,
   ⟨none, .store 1 (.t 6) (.t 5), none, 131840, 3, []⟩])
 (.seq (.reg [⟨(some 7), .faddr 1 (.t 1), none, 196608, 0, []⟩,
   ⟨(some 8), .load 2 true (.t 7), none, 196864, 1, []⟩,
   ⟨(some 9), .call 23 [(.t 8)] true, none, 197120, 2, []⟩,
   ⟨(some 10), .faddr 1 (.t 3), none, 197376, 3, []⟩,
   ⟨none, .store 2 (.t 10) (.t 9), none, 197632, 4, []⟩])
 (.seq (.reg [⟨(some 11), .faddr 3 (.t 1), none, 262144, 0, []⟩,
   ⟨(some 12), .load 1 false (.t 11), none, 262400, 1, []⟩,
   ⟨(some 13), .faddr 3 (.t 3), none, 262656, 2, []⟩,
   ⟨none, .store 1 (.t 13) (.t 12), none, 262912, 3, []⟩])
 (.seq (.reg [⟨(some 14), .faddr 4 (.t 1), none, 327680, 0, []⟩,
   ⟨(some 15), .load 1 false (.t 14), none, 327936, 1, []⟩,
   ⟨(some 16), .faddr 4 (.t 3), none, 328192, 2, []⟩,
   ⟨none, .store 1 (.t 16) (.t 15), none, 328448, 3, []⟩])
 (.seq (.reg [⟨(some 17), .faddr 5 (.t 1), none, 393216, 0, []⟩,
   ⟨(some 18), .load 1 false (.t 17), none, 393472, 1, []⟩,
   ⟨(some 19), .faddr 5 (.t 3), none, 393728, 2, []⟩,
   ⟨none, .store 1 (.t 19) (.t 18), none, 393984, 3, []⟩])
 (.seq (.reg [⟨(some 20), .load 6 true (.t 3), none, 458752, 0, []⟩,
   ⟨none, .store 6 (.t 2) (.t 20), none, 459008, 1, []⟩])
 (.ret))))))))⟩
/-- loop.example/g00849/impl.pgOk -/
def F64 : F := ⟨1, 11, [.t 2],
 .seq (.reg [⟨(some 1), .box (.t 0), none, 0, 0, []⟩,
   ⟨(some 2), .mv (.k (.bool false)), none, 256, 1, []⟩])
 (.seq (.reg [⟨(some 3), .faddr 0 (.t 1), none, 65536, 0, []⟩,
   ⟨(some 4), .load 1 false (.t 3), none, 65792, 1, []⟩,
   ⟨(some 5), .call 65 [(.t 4), (.k (.int .i64 1)), (.k (.int .i64 4))] true, none, 66048, 2, []⟩,
   ⟨(some 6), .mv (.t 5), none, 66304, 3, []⟩,
   ⟨(some 7), .faddr 1 (.t 1), (some (some 6, true)), 66560, 4, []⟩,
   ⟨(some 8), .load 1 false (.t 7), (some (some 6, true)), 66816, 5, []⟩,
   ⟨(some 9), .call 65 [(.t 8), (.k (.int .i64 0)), (.k (.int .i64 15))] true, (some (some 6, true)), 67072, 6, []⟩,
   ⟨(some 10), .pick (.t 6) (.t 9) (.k (.bool false)), none, 67328, 7, []⟩,
   ⟨(some 2), .mv (.t 10), none, 67584, 8, []⟩])
 (.ret))⟩
/-- loop.example/g00849/impl.between -/
def F65 : F := ⟨3, 15, [.t 6],
 .seq (.reg [⟨(some 6), .mv (.k (.bool false)), none, 0, 0, []⟩])
 (.seq (.reg [⟨(some 7), .mv (.t 0), none, 65536, 0, []⟩,
   ⟨(some 8), .mv (.t 1), none, 65792, 1, []⟩,
   ⟨(some 9), .bin .geq (.t 7) (.t 8), none, 66048, 2, []⟩,
   ⟨(some 10), .mv (.t 9), none, 66304, 3, []⟩,
   ⟨(some 11), .mv (.t 0), (some (some 10, true)), 66560, 4, []⟩,
   ⟨(some 12), .mv (.t 2), (some (some 10, true)), 66816, 5, []⟩,
   ⟨(some 13), .bin .leq (.t 11) (.t 12), (some (some 10, true)), 67072, 6, []⟩,
   ⟨(some 14), .pick (.t 10) (.t 13) (.k (.bool false)), none, 67328, 7, []⟩,
   ⟨(some 6), .mv (.t 14), none, 67584, 8, []⟩])
 (.ret))⟩
/-- loop.example/g00849/impl.verOk -/
def F66 : F := ⟨1, 16, [.t 2],
 .seq (.reg [⟨(some 1), .box (.t 0), none, 0, 0, []⟩,
   ⟨(some 2), .mv (.k (.bool false)), none, 256, 1, []⟩])
 (.seq (.reg [⟨(some 3), .load 2 true (.t 1), none, 65536, 0, []⟩,
   ⟨(some 4), .build [(.int .i64 0), (.int .i64 0)] [], none, 65792, 1, []⟩,
   ⟨(some 5), .eqv false true [.i, .i] (.t 3) (.t 4), none, 66048, 2, []⟩,
   ⟨(some 6), .mv (.t 5), none, 66304, 3, []⟩,
   ⟨(some 7), .faddr 0 (.t 1), (some (some 6, false)), 66560, 4, []⟩,
   ⟨(some 8), .load 1 false (.t 7), (some (some 6, false)), 66816, 5, []⟩,
   ⟨(some 9), .call 65 [(.t 8), (.k (.int .i64 1)), (.k (.int .i64 60))] true, (some (some 6, false)), 67072, 6, []⟩,
   ⟨(some 10), .mv (.t 9), (some (some 6, false)), 67328, 7, []⟩,
   ⟨(some 11), .faddr 1 (.t 1), (some (some 10, true)), 67584, 8, []⟩,
   ⟨(some 12), .load 1 false (.t 11), (some (some 10, true)), 67840, 9, []⟩,
   ⟨(some 13), .call 65 [(.t 12), (.k (.int .i64 1)), (.k (.int .i64 1000))] true, (some (some 10, true)), 68096, 10, []⟩,
   ⟨(some 14), .pick (.t 10) (.t 13) (.k (.bool false)), (some (some 6, false)), 68352, 11, []⟩,
   ⟨(some 15), .pick (.t 6) (.k (.bool true)) (.t 14), none, 68608, 12, []⟩,
   ⟨(some 2), .mv (.t 15), none, 68864, 13, []⟩])
 (.ret))⟩
/-- (loop.example/g00849/impl.PgState).baseOk -/
def F67 : F := ⟨1, 107, [.t 2],
 .seq (.reg [⟨(some 1), .box (.t 0), none, 0, 0, []⟩,
   ⟨(some 2), .mv (.k (.bool false)), none, 256, 1, []⟩])
 (.seq (.seq (.reg [⟨(some 8), .faddr 6 (.t 1), none, 65536, 0, []⟩,
   ⟨(some 9), .load 1 false (.t 8), none, 65792, 1, []⟩,
   ⟨(some 10), .len false (.t 9), none, 66048, 2, []⟩,
   ⟨(some 11), .mv (.k (.int .i64 0)), none, 66304, 3, []⟩])
 (.block 0 (.loop [1, 9, 10, 11] [0, 1, 2, 3, 4, 5, 590592, 591105, 591106, 591107, 591108, 656640, 656897, 656898]
  (.seq (.reg [⟨(some 12), .bin .lss (.t 11) (.t 10), none, 131072, 0, []⟩])
  (.seq (.cond (.t 12)
   (.skip)
   (.exit 0))
  (.seq (.block 1 (.seq (.reg [⟨(some 13), .mv (.t 11), none, 196608, 0, []⟩,
    ⟨(some 14), .iaddr 5 (.t 9) (.t 11), none, 196864, 1, []⟩,
    ⟨(some 15), .load 5 true (.t 14), none, 197120, 2, []⟩,
    ⟨(some 4), .alloc [(.str ByteArray.empty), (.int .i64 0), (.int .i64 0), (.int .i64 0), (.int .i64 0)], none, 197376, 3, []⟩,
    ⟨(some 3), .mv (.t 13), none, 197632, 4, []⟩,
    ⟨none, .store 5 (.t 4) (.t 15), none, 197888, 5, []⟩])
  (.seq (.reg [⟨(some 16), .faddr 0 (.t 4), none, 262144, 0, []⟩,
    ⟨(some 17), .load 1 false (.t 16), none, 262400, 1, []⟩,
    ⟨(some 18), .call 81 [(.t 17)] true, none, 262656, 2, []⟩,
    ⟨(some 19), .not (.t 18), none, 262912, 3, []⟩,
    ⟨(some 20), .mv (.t 19), none, 263168, 4, []⟩,
    ⟨(some 21), .load 12 true (.t 1), (some (some 20, false)), 263424, 5, []⟩,
    ⟨(some 22), .faddr 1 (.t 4), (some (some 20, false)), 263680, 6, []⟩,
    ⟨(some 23), .load 2 true (.t 22), (some (some 20, false)), 263936, 7, []⟩,
    ⟨(some 24), .call 89 [(.t 21), (.t 23)] true, (some (some 20, false)), 264192, 8, []⟩,
    ⟨(some 25), .not (.t 24), (some (some 20, false)), 264448, 9, []⟩,
    ⟨(some 26), .pick (.t 20) (.k (.bool true)) (.t 25), none, 264704, 10, []⟩,
    ⟨(some 27), .mv (.t 26), none, 264960, 11, []⟩,
    ⟨(some 28), .faddr 3 (.t 4), (some (some 27, false)), 265216, 12, []⟩,
    ⟨(some 29), .load 1 false (.t 28), (some (some 27, false)), 265472, 13, []⟩,
    ⟨(some 30), .faddr 4 (.t 4), (some (some 27, false)), 265728, 14, []⟩,
    ⟨(some 31), .load 1 false (.t 30), (some (some 27, false)), 265984, 15, []⟩,
    ⟨(some 32), .call 83 [(.t 29), (.t 31)] true, (some (some 27, false)), 266240, 16, []⟩,
    ⟨(some 33), .not (.t 32), (some (some 27, false)), 266496, 17, []⟩,
    ⟨(some 34), .pick (.t 27) (.k (.bool true)) (.t 33), none, 266752, 18, []⟩,
    ⟨(some 35), .mv (.t 34), none, 267008, 19, []⟩,
    ⟨(some 36), .mv (.t 3), (some (some 35, false)), 267264, 20, []⟩,
    ⟨(some 37), .bin .gtr (.t 36) (.k (.int .i64 0)), (some (some 35, false)), 267520, 21, []⟩,
    ⟨(some 38), .mv (.t 37), (some (some 35, false)), 267776, 22, []⟩,
    ⟨(some 39), .faddr 0 (.t 4), (some (some 38, true)), 268032, 23, []⟩,
    ⟨(some 40), .load 1 false (.t 39), (some (some 38, true)), 268288, 24, []⟩,
    ⟨(some 41), .faddr 6 (.t 1), (some (some 38, true)), 268544, 25, []⟩,
    ⟨(some 42), .load 1 false (.t 41), (some (some 38, true)), 268800, 26, []⟩,
    ⟨(some 43), .mv (.t 3), (some (some 38, true)), 269056, 27, []⟩,
    ⟨(some 44), .bin .sub (.t 43) (.k (.int .i64 1)), (some (some 38, true)), 269312, 28, []⟩,
    ⟨(some 45), .iaddr 5 (.t 42) (.t 44), (some (some 38, true)), 269568, 29, []⟩,
    ⟨(some 46), .faddr 0 (.t 45), (some (some 38, true)), 269824, 30, []⟩,
    ⟨(some 47), .load 1 false (.t 46), (some (some 38, true)), 270080, 31, []⟩,
    ⟨(some 48), .bin .leq (.t 40) (.t 47), (some (some 38, true)), 270336, 32, []⟩,
    ⟨(some 49), .pick (.t 38) (.t 48) (.k (.bool false)), (some (some 35, false)), 270592, 33, []⟩,
    ⟨(some 50), .pick (.t 35) (.k (.bool true)) (.t 49), none, 270848, 34, []⟩])
  (.cond (.t 50)
   (.seq (.reg [⟨(some 2), .mv (.k (.bool false)), none, 327680, 0, []⟩])
   (.ret))
   (.skip)))))
  (.reg [⟨(some 51), .bin .add (.t 11) (.k (.int .i64 1)), none, 393216, 0, []⟩,
    ⟨(some 11), .mv (.t 51), none, 393472, 1, []⟩])))))))
 (.seq (.seq (.reg [⟨(some 52), .faddr 7 (.t 1), none, 458752, 0, []⟩,
   ⟨(some 53), .load 1 false (.t 52), none, 459008, 1, []⟩,
   ⟨(some 54), .len false (.t 53), none, 459264, 2, []⟩,
   ⟨(some 55), .mv (.k (.int .i64 0)), none, 459520, 3, []⟩])
 (.block 2 (.loop [1, 53, 54, 55] [0, 1, 2, 3, 4, 5, 197376, 197889, 197890, 197891, 197892, 197893]
  (.seq (.reg [⟨(some 56), .bin .lss (.t 55) (.t 54), none, 524288, 0, []⟩])
  (.seq (.cond (.t 56)
   (.skip)
   (.exit 2))
  (.seq (.block 3 (.seq (.reg [⟨(some 57), .mv (.t 55), none, 589824, 0, []⟩,
    ⟨(some 58), .iaddr 4 (.t 53) (.t 55), none, 590080, 1, []⟩,
    ⟨(some 59), .load 4 true (.t 58), none, 590336, 2, []⟩,
    ⟨(some 6), .alloc [(.int .i64 0), (.int .i64 0), (.int .i64 0), (.int .i64 0)], none, 590592, 3, []⟩,
    ⟨(some 5), .mv (.t 57), none, 590848, 4, []⟩,
    ⟨none, .store 4 (.t 6) (.t 59), none, 591104, 5, []⟩])
  (.seq (.reg [⟨(some 60), .faddr 0 (.t 6), none, 655360, 0, []⟩,
    ⟨(some 61), .load 1 false (.t 60), none, 655616, 1, []⟩,
    ⟨(some 62), .faddr 1 (.t 6), none, 655872, 2, []⟩,
    ⟨(some 63), .load 1 false (.t 62), none, 656128, 3, []⟩,
    ⟨(some 64), .build [(.int .i64 0), (.int .i64 0)] [(0, 1, (.t 61)), (1, 1, (.t 63))], none, 656384, 4, []⟩,
    ⟨(some 7), .alloc [(.int .i64 0), (.int .i64 0)], none, 656640, 5, []⟩,
    ⟨none, .store 2 (.t 7) (.t 64), none, 656896, 6, []⟩])
  (.seq (.reg [⟨(some 65), .load 2 true (.t 7), none, 720896, 0, []⟩,
    ⟨(some 66), .call 82 [(.t 65)] true, none, 721152, 1, []⟩,
    ⟨(some 67), .not (.t 66), none, 721408, 2, []⟩,
    ⟨(some 68), .mv (.t 67), none, 721664, 3, []⟩,
    ⟨(some 69), .load 2 true (.t 7), (some (some 68, false)), 721920, 4, []⟩,
    ⟨(some 70), .build [(.int .i64 0), (.int .i64 0)] [], (some (some 68, false)), 722176, 5, []⟩,
    ⟨(some 71), .eqv false true [.i, .i] (.t 69) (.t 70), (some (some 68, false)), 722432, 6, []⟩,
    ⟨(some 72), .pick (.t 68) (.k (.bool true)) (.t 71), none, 722688, 7, []⟩,
    ⟨(some 73), .mv (.t 72), none, 722944, 8, []⟩,
    ⟨(some 74), .load 12 true (.t 1), (some (some 73, false)), 723200, 9, []⟩,
    ⟨(some 75), .faddr 2 (.t 6), (some (some 73, false)), 723456, 10, []⟩,
    ⟨(some 76), .load 2 true (.t 75), (some (some 73, false)), 723712, 11, []⟩,
    ⟨(some 77), .call 89 [(.t 74), (.t 76)] true, (some (some 73, false)), 723968, 12, []⟩,
    ⟨(some 78), .not (.t 77), (some (some 73, false)), 724224, 13, []⟩,
    ⟨(some 79), .pick (.t 73) (.k (.bool true)) (.t 78), none, 724480, 14, []⟩,
    ⟨(some 80), .mv (.t 79), none, 724736, 15, []⟩,
    ⟨(some 81), .mv (.t 5), (some (some 80, false)), 724992, 16, []⟩,
    ⟨(some 82), .bin .gtr (.t 81) (.k (.int .i64 0)), (some (some 80, false)), 725248, 17, []⟩,
    ⟨(some 83), .mv (.t 82), (some (some 80, false)), 725504, 18, []⟩,
    ⟨(some 84), .faddr 0 (.t 6), (some (some 83, true)), 725760, 19, []⟩,
    ⟨(some 85), .load 1 false (.t 84), (some (some 83, true)), 726016, 20, []⟩,
    ⟨(some 86), .faddr 7 (.t 1), (some (some 83, true)), 726272, 21, []⟩,
    ⟨(some 87), .load 1 false (.t 86), (some (some 83, true)), 726528, 22, []⟩,
    ⟨(some 88), .mv (.t 5), (some (some 83, true)), 726784, 23, []⟩,
    ⟨(some 89), .bin .sub (.t 88) (.k (.int .i64 1)), (some (some 83, true)), 727040, 24, []⟩,
    ⟨(some 90), .iaddr 4 (.t 87) (.t 89), (some (some 83, true)), 727296, 25, []⟩,
    ⟨(some 91), .faddr 0 (.t 90), (some (some 83, true)), 727552, 26, []⟩,
    ⟨(some 92), .load 1 false (.t 91), (some (some 83, true)), 727808, 27, []⟩,
    ⟨(some 93), .bin .leq (.t 85) (.t 92), (some (some 83, true)), 728064, 28, []⟩,
    ⟨(some 94), .pick (.t 83) (.t 93) (.k (.bool false)), (some (some 80, false)), 728320, 29, []⟩,
    ⟨(some 95), .pick (.t 80) (.k (.bool true)) (.t 94), none, 728576, 30, []⟩])
  (.cond (.t 95)
   (.seq (.reg [⟨(some 2), .mv (.k (.bool false)), none, 786432, 0, []⟩])
   (.ret))
   (.skip))))))
  (.reg [⟨(some 96), .bin .add (.t 55) (.k (.int .i64 1)), none, 851968, 0, []⟩,
    ⟨(some 55), .mv (.t 96), none, 852224, 1, []⟩])))))))
 (.seq (.reg [⟨(some 97), .faddr 6 (.t 1), none, 917504, 0, []⟩,
   ⟨(some 98), .load 1 false (.t 97), none, 917760, 1, []⟩,
   ⟨(some 99), .len false (.t 98), none, 918016, 2, []⟩,
   ⟨(some 100), .bin .leq (.t 99) (.k (.int .i64 16)), none, 918272, 3, []⟩,
   ⟨(some 101), .mv (.t 100), none, 918528, 4, []⟩,
   ⟨(some 102), .faddr 7 (.t 1), (some (some 101, true)), 918784, 5, []⟩,
   ⟨(some 103), .load 1 false (.t 102), (some (some 101, true)), 919040, 6, []⟩,
   ⟨(some 104), .len false (.t 103), (some (some 101, true)), 919296, 7, []⟩,
   ⟨(some 105), .bin .leq (.t 104) (.k (.int .i64 6)), (some (some 101, true)), 919552, 8, []⟩,
   ⟨(some 106), .pick (.t 101) (.t 105) (.k (.bool false)), none, 919808, 9, []⟩,
   ⟨(some 2), .mv (.t 106), none, 920064, 10, []⟩])
 (.ret))))⟩
/-- loop.example/g00849/impl.VerLess -/
def F69 : F := ⟨2, 9, [.t 4],
 .seq (.reg [⟨(some 2), .box (.t 0), none, 0, 0, []⟩,
   ⟨(some 3), .box (.t 1), none, 256, 1, []⟩,
   ⟨(some 4), .mv (.k (.bool false)), none, 512, 2, []⟩])
 (.seq (.reg [⟨(some 5), .load 2 true (.t 2), none, 65536, 0, []⟩,
   ⟨(some 6), .load 2 true (.t 3), none, 65792, 1, []⟩,
   ⟨(some 7), .call 90 [(.t 5), (.t 6)] true, none, 66048, 2, []⟩,
   ⟨(some 8), .bin .lss (.t 7) (.k (.int .i64 0)), none, 66304, 3, []⟩,
   ⟨(some 4), .mv (.t 8), none, 66560, 4, []⟩])
 (.ret))⟩
/-- (loop.example/g00849/impl.PgState).lastVer -/
def F70 : F := ⟨1, 13, [.cell 2 2 true],
 .seq (.reg [⟨(some 1), .box (.t 0), none, 0, 0, []⟩,
   ⟨(some 2), .alloc [(.int .i64 0), (.int .i64 0)], none, 256, 1, []⟩])
 (.seq (.seq (.reg [⟨(some 3), .faddr 8 (.t 1), none, 65536, 0, []⟩,
   ⟨(some 4), .load 1 false (.t 3), none, 65792, 1, []⟩,
   ⟨(some 5), .len false (.t 4), none, 66048, 2, []⟩,
   ⟨(some 6), .bin .eql (.t 5) (.k (.int .i64 0)), none, 66304, 3, []⟩])
 (.cond (.t 6)
  (.seq (.reg [⟨(some 7), .faddr 4 (.t 1), none, 131072, 0, []⟩,
    ⟨(some 8), .load 2 true (.t 7), none, 131328, 1, []⟩,
    ⟨none, .store 2 (.t 2) (.t 8), none, 131584, 2, []⟩])
  (.ret))
  (.skip)))
 (.seq (.reg [⟨(some 9), .faddr 8 (.t 1), none, 196608, 0, []⟩,
   ⟨(some 10), .load 1 false (.t 9), none, 196864, 1, []⟩,
   ⟨(some 11), .call 91 [(.t 10)] true, none, 197120, 2, []⟩,
   ⟨(some 12), .field 0 2 true (.t 11), none, 197376, 3, []⟩,
   ⟨none, .store 2 (.t 2) (.t 12), none, 197632, 4, []⟩])
 (.ret)))⟩
/-- (loop.example/g00849/impl.PgState).chunksOk -/
def F71 : F := ⟨1, 36, [.t 2],
 .seq (.reg [⟨(some 1), .box (.t 0), none, 0, 0, []⟩,
   ⟨(some 2), .mv (.k (.bool false)), none, 256, 1, []⟩])
 (.seq (.seq (.reg [⟨(some 5), .faddr 11 (.t 1), none, 65536, 0, []⟩,
   ⟨(some 6), .load 1 false (.t 5), none, 65792, 1, []⟩,
   ⟨(some 7), .len false (.t 6), none, 66048, 2, []⟩,
   ⟨(some 8), .mv (.k (.int .i64 0)), none, 66304, 3, []⟩])
 (.block 0 (.loop [1, 6, 7, 8] [0, 1, 2, 3, 4, 5]
  (.seq (.reg [⟨(some 9), .bin .lss (.t 8) (.t 7), none, 131072, 0, []⟩])
  (.seq (.cond (.t 9)
   (.skip)
   (.exit 0))
  (.seq (.block 1 (.seq (.reg [⟨(some 10), .mv (.t 8), none, 196608, 0, []⟩,
    ⟨(some 11), .iaddr 6 (.t 6) (.t 8), none, 196864, 1, []⟩,
    ⟨(some 12), .load 6 true (.t 11), none, 197120, 2, []⟩,
    ⟨(some 4), .alloc [(.str ByteArray.empty), (.int .i64 0), (.int .i64 0), (.int .i64 0), (.int .i64 0), (.str ByteArray.empty)], none, 197376, 3, []⟩,
    ⟨(some 3), .mv (.t 10), none, 197632, 4, []⟩,
    ⟨none, .store 6 (.t 4) (.t 12), none, 197888, 5, []⟩])
  (.seq (.reg [⟨(some 13), .load 6 true (.t 4), none, 262144, 0, []⟩,
    ⟨(some 14), .call 92 [(.t 13)] true, none, 262400, 1, []⟩,
    ⟨(some 15), .not (.t 14), none, 262656, 2, []⟩,
    ⟨(some 16), .mv (.t 15), none, 262912, 3, []⟩,
    ⟨(some 17), .mv (.t 3), (some (some 16, false)), 263168, 4, []⟩,
    ⟨(some 18), .bin .gtr (.t 17) (.k (.int .i64 0)), (some (some 16, false)), 263424, 5, []⟩,
    ⟨(some 19), .mv (.t 18), (some (some 16, false)), 263680, 6, []⟩,
    ⟨(some 20), .faddr 11 (.t 1), (some (some 19, true)), 263936, 7, []⟩,
    ⟨(some 21), .load 1 false (.t 20), (some (some 19, true)), 264192, 8, []⟩,
    ⟨(some 22), .mv (.t 3), (some (some 19, true)), 264448, 9, []⟩,
    ⟨(some 23), .bin .sub (.t 22) (.k (.int .i64 1)), (some (some 19, true)), 264704, 10, []⟩,
    ⟨(some 24), .iaddr 6 (.t 21) (.t 23), (some (some 19, true)), 264960, 11, []⟩,
    ⟨(some 25), .load 6 true (.t 24), (some (some 19, true)), 265216, 12, []⟩,
    ⟨(some 26), .load 6 true (.t 4), (some (some 19, true)), 265472, 13, []⟩,
    ⟨(some 27), .call 93 [(.t 25), (.t 26)] true, (some (some 19, true)), 265728, 14, []⟩,
    ⟨(some 28), .bin .geq (.t 27) (.k (.int .i64 0)), (some (some 19, true)), 265984, 15, []⟩,
    ⟨(some 29), .pick (.t 19) (.t 28) (.k (.bool false)), (some (some 16, false)), 266240, 16, []⟩,
    ⟨(some 30), .pick (.t 16) (.k (.bool true)) (.t 29), none, 266496, 17, []⟩])
  (.cond (.t 30)
   (.seq (.reg [⟨(some 2), .mv (.k (.bool false)), none, 327680, 0, []⟩])
   (.ret))
   (.skip)))))
  (.reg [⟨(some 31), .bin .add (.t 8) (.k (.int .i64 1)), none, 393216, 0, []⟩,
    ⟨(some 8), .mv (.t 31), none, 393472, 1, []⟩])))))))
 (.seq (.reg [⟨(some 32), .faddr 11 (.t 1), none, 458752, 0, []⟩,
   ⟨(some 33), .load 1 false (.t 32), none, 459008, 1, []⟩,
   ⟨(some 34), .len false (.t 33), none, 459264, 2, []⟩,
   ⟨(some 35), .bin .leq (.t 34) (.k (.int .i64 160)), none, 459520, 3, []⟩,
   ⟨(some 2), .mv (.t 35), none, 459776, 4, []⟩])
 (.ret)))⟩
/-- (loop.example/g00849/impl.PgState).clone -/
def F72 : F := ⟨1, 20, [.cell 2 12 true],
 .seq (.reg [⟨(some 1), .box (.t 0), none, 0, 0, []⟩,
   ⟨(some 2), .alloc [(.int .i64 0), (.int .i64 0), (.int .i64 0), (.int .i64 0), (.int .i64 0), (.int .i64 0), (.nil true 5), (.nil true 4), (.nil true 10), (.int .i64 0), (.int .i64 0), (.nil true 6)], none, 256, 1, []⟩])
 (.seq (.reg [⟨(some 3), .faddr 6 (.t 1), none, 65536, 0, []⟩,
   ⟨(some 4), .load 1 false (.t 3), none, 65792, 1, []⟩,
   ⟨(some 5), .call 94 [(.t 4)] false, none, 66048, 2, []⟩,
   ⟨(some 6), .faddr 6 (.t 1), none, 66304, 3, []⟩,
   ⟨none, .store 1 (.t 6) (.t 5), none, 66560, 4, []⟩])
 (.seq (.reg [⟨(some 7), .faddr 7 (.t 1), none, 131072, 0, []⟩,
   ⟨(some 8), .load 1 false (.t 7), none, 131328, 1, []⟩,
   ⟨(some 9), .call 95 [(.t 8)] false, none, 131584, 2, []⟩,
   ⟨(some 10), .faddr 7 (.t 1), none, 131840, 3, []⟩,
   ⟨none, .store 1 (.t 10) (.t 9), none, 132096, 4, []⟩])
 (.seq (.reg [⟨(some 11), .faddr 8 (.t 1), none, 196608, 0, []⟩,
   ⟨(some 12), .load 1 false (.t 11), none, 196864, 1, []⟩,
   ⟨(some 13), .call 96 [(.t 12)] false, none, 197120, 2, []⟩,
   ⟨(some 14), .faddr 8 (.t 1), none, 197376, 3, []⟩,
   ⟨none, .store 1 (.t 14) (.t 13), none, 197632, 4, []⟩])
 (.seq (.reg [⟨(some 15), .faddr 11 (.t 1), none, 262144, 0, []⟩,
   ⟨(some 16), .load 1 false (.t 15), none, 262400, 1, []⟩,
   ⟨(some 17), .call 97 [(.t 16)] false, none, 262656, 2, []⟩,
   ⟨(some 18), .faddr 11 (.t 1), none, 262912, 3, []⟩,
   ⟨none, .store 1 (.t 18) (.t 17), none, 263168, 4, []⟩])
 (.seq (.reg [⟨(some 19), .load 12 true (.t 1), none, 327680, 0, []⟩,
   ⟨none, .store 12 (.t 2) (.t 19), none, 327936, 1, []⟩])
 (.ret))))))⟩
/-- loop.example/g00849/laws.eqHead -/
def F73 : F := ⟨2, 26, [.t 4],
 .seq (.reg [⟨(some 2), .box (.t 0), none, 0, 0, []⟩,
   ⟨(some 3), .box (.t 1), none, 256, 1, []⟩,
   ⟨(some 4), .mv (.k (.bool false)), none, 512, 2, []⟩])
 (.seq (.seq (.reg [⟨(some 5), .faddr 0 (.t 2), none, 65536, 0, []⟩,
   ⟨(some 6), .load 1 false (.t 5), none, 65792, 1, []⟩,
   ⟨(some 7), .faddr 0 (.t 3), none, 66048, 2, []⟩,
   ⟨(some 8), .load 1 false (.t 7), none, 66304, 3, []⟩,
   ⟨(some 9), .bin .neq (.t 6) (.t 8), none, 66560, 4, []⟩])
 (.cond (.t 9)
  (.seq (.reg [⟨(some 4), .mv (.k (.bool false)), none, 131072, 0, []⟩])
  (.ret))
  (.skip)))
 (.seq (.seq (.reg [⟨(some 10), .faddr 1 (.t 2), none, 196608, 0, []⟩,
   ⟨(some 11), .load 2 true (.t 10), none, 196864, 1, []⟩,
   ⟨(some 12), .faddr 1 (.t 3), none, 197120, 2, []⟩,
   ⟨(some 13), .load 2 true (.t 12), none, 197376, 3, []⟩,
   ⟨(some 14), .call 31 [(.t 11), (.t 13)] true, none, 197632, 4, []⟩,
   ⟨(some 15), .not (.t 14), none, 197888, 5, []⟩])
 (.cond (.t 15)
  (.seq (.reg [⟨(some 4), .mv (.k (.bool false)), none, 262144, 0, []⟩])
  (.ret))
  (.skip)))
 (.seq (.seq (.reg [⟨(some 16), .faddr 3 (.t 2), none, 327680, 0, []⟩,
   ⟨(some 17), .load 1 false (.t 16), none, 327936, 1, []⟩,
   ⟨(some 18), .faddr 3 (.t 3), none, 328192, 2, []⟩,
   ⟨(some 19), .load 1 false (.t 18), none, 328448, 3, []⟩,
   ⟨(some 20), .bin .neq (.t 17) (.t 19), none, 328704, 4, []⟩])
 (.cond (.t 20)
  (.seq (.reg [⟨(some 4), .mv (.k (.bool false)), none, 393216, 0, []⟩])
  (.ret))
  (.skip)))
 (.seq (.seq (.reg [⟨(some 21), .faddr 4 (.t 2), none, 458752, 0, []⟩,
   ⟨(some 22), .load 1 false (.t 21), none, 459008, 1, []⟩,
   ⟨(some 23), .faddr 4 (.t 3), none, 459264, 2, []⟩,
   ⟨(some 24), .load 1 false (.t 23), none, 459520, 3, []⟩,
   ⟨(some 25), .bin .neq (.t 22) (.t 24), none, 459776, 4, []⟩])
 (.cond (.t 25)
  (.seq (.reg [⟨(some 4), .mv (.k (.bool false)), none, 524288, 0, []⟩])
  (.ret))
  (.skip)))
 (.seq (.reg [⟨(some 4), .mv (.k (.bool true)), none, 589824, 0, []⟩])
 (.ret))))))⟩
/-- loop.example/g00849/laws.eqLast -/
def F74 : F := ⟨2, 21, [.t 4],
 .seq (.reg [⟨(some 2), .box (.t 0), none, 0, 0, []⟩,
   ⟨(some 3), .box (.t 1), none, 256, 1, []⟩,
   ⟨(some 4), .mv (.k (.bool false)), none, 512, 2, []⟩])
 (.seq (.seq (.reg [⟨(some 5), .faddr 0 (.t 2), none, 65536, 0, []⟩,
   ⟨(some 6), .load 1 false (.t 5), none, 65792, 1, []⟩,
   ⟨(some 7), .faddr 0 (.t 3), none, 66048, 2, []⟩,
   ⟨(some 8), .load 1 false (.t 7), none, 66304, 3, []⟩,
   ⟨(some 9), .bin .neq (.t 6) (.t 8), none, 66560, 4, []⟩])
 (.cond (.t 9)
  (.seq (.reg [⟨(some 4), .mv (.k (.bool false)), none, 131072, 0, []⟩])
  (.ret))
  (.skip)))
 (.seq (.seq (.reg [⟨(some 10), .faddr 1 (.t 2), none, 196608, 0, []⟩,
   ⟨(some 11), .load 1 false (.t 10), none, 196864, 1, []⟩,
   ⟨(some 12), .faddr 1 (.t 3), none, 197120, 2, []⟩,
   ⟨(some 13), .load 1 false (.t 12), none, 197376, 3, []⟩,
   ⟨(some 14), .bin .neq (.t 11) (.t 13), none, 197632, 4, []⟩])
 (.cond (.t 14)
  (.seq (.reg [⟨(some 4), .mv (.k (.bool false)), none, 262144, 0, []⟩])
  (.ret))
  (.skip)))
 (.seq (.seq (.reg [⟨(some 15), .faddr 2 (.t 2), none, 327680, 0, []⟩,
   ⟨(some 16), .load 2 true (.t 15), none, 327936, 1, []⟩,
   ⟨(some 17), .faddr 2 (.t 3), none, 328192, 2, []⟩,
   ⟨(some 18), .load 2 true (.t 17), none, 328448, 3, []⟩,
   ⟨(some 19), .call 31 [(.t 16), (.t 18)] true, none, 328704, 4, []⟩,
   ⟨(some 20), .not (.t 19), none, 328960, 5, []⟩])
 (.cond (.t 20)
  (.seq (.reg [⟨(some 4), .mv (.k (.bool false)), none, 393216, 0, []⟩])
  (.ret))
  (.skip)))
 (.seq (.reg [⟨(some 4), .mv (.k (.bool true)), none, 458752, 0, []⟩])
 (.ret)))))⟩
/-- loop.example/g00849/laws.eqEntry -/
def F75 : F := ⟨2, 43, [.t 4],
 .seq (.reg [⟨(some 2), .box (.t 0), none, 0, 0, []⟩,
   ⟨(some 3), .box (.t 1), none, 256, 1, []⟩,
   ⟨(some 4), .mv (.k (.bool false)), none, 512, 2, []⟩])
 (.seq (.seq (.reg [⟨(some 5), .faddr 0 (.t 2), none, 65536, 0, []⟩,
   ⟨(some 6), .load 2 true (.t 5), none, 65792, 1, []⟩,
   ⟨(some 7), .faddr 0 (.t 3), none, 66048, 2, []⟩,
   ⟨(some 8), .load 2 true (.t 7), none, 66304, 3, []⟩,
   ⟨(some 9), .call 31 [(.t 6), (.t 8)] true, none, 66560, 4, []⟩,
   ⟨(some 10), .not (.t 9), none, 66816, 5, []⟩])
 (.cond (.t 10)
  (.seq (.reg [⟨(some 4), .mv (.k (.bool false)), none, 131072, 0, []⟩])
  (.ret))
  (.skip)))
 (.seq (.seq (.reg [⟨(some 11), .faddr 2 (.t 2), none, 196608, 0, []⟩,
   ⟨(some 12), .load 2 true (.t 11), none, 196864, 1, []⟩,
   ⟨(some 13), .faddr 2 (.t 3), none, 197120, 2, []⟩,
   ⟨(some 14), .load 2 true (.t 13), none, 197376, 3, []⟩,
   ⟨(some 15), .call 31 [(.t 12), (.t 14)] true, none, 197632, 4, []⟩,
   ⟨(some 16), .not (.t 15), none, 197888, 5, []⟩])
 (.cond (.t 16)
  (.seq (.reg [⟨(some 4), .mv (.k (.bool false)), none, 262144, 0, []⟩])
  (.ret))
  (.skip)))
 (.seq (.seq (.reg [⟨(some 17), .faddr 4 (.t 2), none, 327680, 0, []⟩,
   ⟨(some 18), .load 1 false (.t 17), none, 327936, 1, []⟩,
   ⟨(some 19), .faddr 4 (.t 3), none, 328192, 2, []⟩,
   ⟨(some 20), .load 1 false (.t 19), none, 328448, 3, []⟩,
   ⟨(some 21), .bin .neq (.t 18) (.t 20), none, 328704, 4, []⟩])
 (.cond (.t 21)
  (.seq (.reg [⟨(some 4), .mv (.k (.bool false)), none, 393216, 0, []⟩])
  (.ret))
  (.skip)))
 (.seq (.seq (.reg [⟨(some 22), .faddr 5 (.t 2), none, 458752, 0, []⟩,
   ⟨(some 23), .load 1 false (.t 22), none, 459008, 1, []⟩,
   ⟨(some 24), .faddr 5 (.t 3), none, 459264, 2, []⟩,
   ⟨(some 25), .load 1 false (.t 24), none, 459520, 3, []⟩,
   ⟨(some 26), .eqv true false [.b] (.t 23) (.t 25), none, 459776, 4, []⟩])
 (.cond (.t 26)
  (.seq (.reg [⟨(some 4), .mv (.k (.bool false)), none, 524288, 0, []⟩])
  (.ret))
  (.skip)))
 (.seq (.seq (.reg [⟨(some 27), .faddr 6 (.t 2), none, 589824, 0, []⟩,
   ⟨(some 28), .load 1 false (.t 27), none, 590080, 1, []⟩,
   ⟨(some 29), .faddr 6 (.t 3), none, 590336, 2, []⟩,
   ⟨(some 30), .load 1 false (.t 29), none, 590592, 3, []⟩,
   ⟨(some 31), .bin .neq (.t 28) (.t 30), none, 590848, 4, []⟩])
 (.cond (.t 31)
  (.seq (.reg [⟨(some 4), .mv (.k (.bool false)), none, 655360, 0, []⟩])
  (.ret))
  (.skip)))
 (.seq (.seq (.reg [⟨(some 32), .faddr 7 (.t 2), none, 720896, 0, []⟩,
   ⟨(some 33), .load 1 false (.t 32), none, 721152, 1, []⟩,
   ⟨(some 34), .faddr 7 (.t 3), none, 721408, 2, []⟩,
   ⟨(some 35), .load 1 false (.t 34), none, 721664, 3, []⟩,
   ⟨(some 36), .bin .neq (.t 33) (.t 35), none, 721920, 4, []⟩])
 (.cond (.t 36)
  (.seq (.reg [⟨(some 4), .mv (.k (.bool false)), none, 786432, 0, []⟩])
  (.ret))
  (.skip)))
 (.seq (.seq (.reg [⟨(some 37), .faddr 8 (.t 2), none, 851968, 0, []⟩,
   ⟨(some 38), .load 2 true (.t 37), none, 852224, 1, []⟩,
   ⟨(some 39), .faddr 8 (.t 3), none, 852480, 2, []⟩,
   ⟨(some 40), .load 2 true (.t 39), none, 852736, 3, []⟩,
   ⟨(some 41), .call 98 [(.t 38), (.t 40)] true, none, 852992, 4, []⟩,
   ⟨(some 42), .not (.t 41), none, 853248, 5, []⟩])
 (.cond (.t 42)
  (.seq (.reg [⟨(some 4), .mv (.k (.bool false)), none, 917504, 0, []⟩])
  (.ret))
  (.skip)))
 (.seq (.reg [⟨(some 4), .mv (.k (.bool true)), none, 983040, 0, []⟩])
 (.ret)))))))))⟩
/-- loop.example/g00849/laws.eqChunk -/
def F76 : F := ⟨2, 31, [.t 4],
 .seq (.reg [⟨(some 2), .box (.t 0), none, 0, 0, []⟩,
   ⟨(some 3), .box (.t 1), none, 256, 1, []⟩,
   ⟨(some 4), .mv (.k (.bool false)), none, 512, 2, []⟩])
 (.seq (.seq (.reg [⟨(some 5), .faddr 0 (.t 2), none, 65536, 0, []⟩,
   ⟨(some 6), .load 1 false (.t 5), none, 65792, 1, []⟩,
   ⟨(some 7), .faddr 0 (.t 3), none, 66048, 2, []⟩,
   ⟨(some 8), .load 1 false (.t 7), none, 66304, 3, []⟩,
   ⟨(some 9), .bin .neq (.t 6) (.t 8), none, 66560, 4, []⟩])
 (.cond (.t 9)
  (.seq (.reg [⟨(some 4), .mv (.k (.bool false)), none, 131072, 0, []⟩])
  (.ret))
  (.skip)))
 (.seq (.seq (.reg [⟨(some 10), .faddr 1 (.t 2), none, 196608, 0, []⟩,
   ⟨(some 11), .load 2 true (.t 10), none, 196864, 1, []⟩,
   ⟨(some 12), .faddr 1 (.t 3), none, 197120, 2, []⟩,
   ⟨(some 13), .load 2 true (.t 12), none, 197376, 3, []⟩,
   ⟨(some 14), .call 31 [(.t 11), (.t 13)] true, none, 197632, 4, []⟩,
   ⟨(some 15), .not (.t 14), none, 197888, 5, []⟩])
 (.cond (.t 15)
  (.seq (.reg [⟨(some 4), .mv (.k (.bool false)), none, 262144, 0, []⟩])
  (.ret))
  (.skip)))
 (.seq (.seq (.reg [⟨(some 16), .faddr 3 (.t 2), none, 327680, 0, []⟩,
   ⟨(some 17), .load 1 false (.t 16), none, 327936, 1, []⟩,
   ⟨(some 18), .faddr 3 (.t 3), none, 328192, 2, []⟩,
   ⟨(some 19), .load 1 false (.t 18), none, 328448, 3, []⟩,
   ⟨(some 20), .bin .neq (.t 17) (.t 19), none, 328704, 4, []⟩])
 (.cond (.t 20)
  (.seq (.reg [⟨(some 4), .mv (.k (.bool false)), none, 393216, 0, []⟩])
  (.ret))
  (.skip)))
 (.seq (.seq (.reg [⟨(some 21), .faddr 4 (.t 2), none, 458752, 0, []⟩,
   ⟨(some 22), .load 1 false (.t 21), none, 459008, 1, []⟩,
   ⟨(some 23), .faddr 4 (.t 3), none, 459264, 2, []⟩,
   ⟨(some 24), .load 1 false (.t 23), none, 459520, 3, []⟩,
   ⟨(some 25), .bin .neq (.t 22) (.t 24), none, 459776, 4, []⟩])
 (.cond (.t 25)
  (.seq (.reg [⟨(some 4), .mv (.k (.bool false)), none, 524288, 0, []⟩])
  (.ret))
  (.skip)))
 (.seq (.seq (.reg [⟨(some 26), .faddr 5 (.t 2), none, 589824, 0, []⟩,
   ⟨(some 27), .load 1 false (.t 26), none, 590080, 1, []⟩,
   ⟨(some 28), .faddr 5 (.t 3), none, 590336, 2, []⟩,
   ⟨(some 29), .load 1 false (.t 28), none, 590592, 3, []⟩,
   ⟨(some 30), .bin .neq (.t 27) (.t 29), none, 590848, 4, []⟩])
 (.cond (.t 30)
  (.seq (.reg [⟨(some 4), .mv (.k (.bool false)), none, 655360, 0, []⟩])
  (.ret))
  (.skip)))
 (.seq (.reg [⟨(some 4), .mv (.k (.bool true)), none, 720896, 0, []⟩])
 (.ret)))))))⟩
/-- loop.example/g00849/laws.markText -/
def F77 : F := ⟨1, 20, [.t 2],
 .seq (.reg [⟨(some 2), .mv (.k (.str ByteArray.empty)), none, 0, 0, []⟩])
 (.seq (.seq (.reg [⟨(some 4), .mv (.t 0), none, 65536, 0, []⟩,
   ⟨(some 5), .bin .leq (.t 4) (.k (.int .i64 0)), none, 65792, 1, []⟩])
 (.cond (.t 5)
  (.seq (.reg [⟨(some 2), .mv (.k (.str ⟨#[109, 48]⟩)), none, 131072, 0, []⟩])
  (.ret))
  (.skip)))
 (.seq (.reg [⟨(some 3), .mv (.k (.str ByteArray.empty)), none, 196608, 0, []⟩])
 (.seq (.block 0 (.loop [0, 3] []
  (.seq (.seq (.reg [⟨(some 6), .mv (.t 0), none, 262144, 0, []⟩,
    ⟨(some 7), .bin .gtr (.t 6) (.k (.int .i64 0)), none, 262400, 1, []⟩])
  (.cond (.t 7)
   (.skip)
   (.exit 0)))
  (.block 1 (.seq (.reg [⟨(some 8), .mv (.t 0), none, 327680, 0, []⟩,
    ⟨(some 9), .bin .rem (.t 8) (.k (.int .i64 10)), none, 327936, 1, []⟩,
    ⟨(some 10), .bin .add (.k (.int .i64 48)) (.t 9), none, 328192, 2, []⟩,
    ⟨(some 11), .conv .u8 (.t 10), none, 328448, 3, []⟩,
    ⟨(some 12), .bslice true 1 [(.int .u8 0)] 1 [(0, (.t 11))], none, 328704, 4, []⟩,
    ⟨(some 13), .b2s (.t 12), none, 328960, 5, []⟩,
    ⟨(some 14), .mv (.t 3), none, 329216, 6, []⟩,
    ⟨(some 15), .bin .add (.t 13) (.t 14), none, 329472, 7, []⟩,
    ⟨(some 3), .mv (.t 15), none, 329728, 8, []⟩])
  (.reg [⟨(some 16), .mv (.t 0), none, 393216, 0, []⟩,
    ⟨(some 17), .bin .quo (.t 16) (.k (.int .i64 10)), none, 393472, 1, []⟩,
    ⟨(some 0), .mv (.t 17), none, 393728, 2, []⟩]))))))
 (.seq (.reg [⟨(some 18), .mv (.t 3), none, 458752, 0, []⟩,
   ⟨(some 19), .bin .add (.k (.str ⟨#[109]⟩)) (.t 18), none, 459008, 1, []⟩,
   ⟨(some 2), .mv (.t 19), none, 459264, 2, []⟩])
 (.ret)))))⟩
/-- loop.example/g00849/spec.NameOk -/
def F78 : F := ⟨1, 5, [.t 2],
 .seq (.reg [⟨(some 2), .mv (.k (.bool false)), none, 0, 0, []⟩])
 (.seq (.reg [⟨(some 3), .mv (.t 0), none, 65536, 0, []⟩,
   ⟨(some 4), .call 99 [(.t 3)] true, none, 65792, 1, []⟩,
   ⟨(some 2), .mv (.t 4), none, 66048, 2, []⟩])
 (.ret))⟩
/-- loop.example/g00849/spec.l17Req -/
def F79 : F := ⟨1, 16, [.t 2],
 .seq (.reg [⟨(some 1), .box (.t 0), none, 0, 0, []⟩,
   ⟨(some 2), .mv (.k (.bool false)), none, 256, 1, []⟩])
 (.seq (.reg [⟨(some 3), .load 2 true (.t 1), none, 65536, 0, []⟩,
   ⟨(some 4), .build [(.int .i64 0), (.int .i64 0)] [], none, 65792, 1, []⟩,
   ⟨(some 5), .eqv false true [.i, .i] (.t 3) (.t 4), none, 66048, 2, []⟩,
   ⟨(some 6), .mv (.t 5), none, 66304, 3, []⟩,
   ⟨(some 7), .faddr 0 (.t 1), (some (some 6, false)), 66560, 4, []⟩,
   ⟨(some 8), .load 1 false (.t 7), (some (some 6, false)), 66816, 5, []⟩,
   ⟨(some 9), .call 86 [(.t 8)] true, (some (some 6, false)), 67072, 6, []⟩,
   ⟨(some 10), .mv (.t 9), (some (some 6, false)), 67328, 7, []⟩,
   ⟨(some 11), .faddr 1 (.t 1), (some (some 10, true)), 67584, 8, []⟩,
   ⟨(some 12), .load 1 false (.t 11), (some (some 10, true)), 67840, 9, []⟩,
   ⟨(some 13), .call 54 [(.t 12), (.k (.int .i64 1)), (.k (.int .i64 1000))] true, (some (some 10, true)), 68096, 10, []⟩,
   ⟨(some 14), .pick (.t 10) (.t 13) (.k (.bool false)), (some (some 6, false)), 68352, 11, []⟩,
   ⟨(some 15), .pick (.t 6) (.k (.bool true)) (.t 14), none, 68608, 12, []⟩,
   ⟨(some 2), .mv (.t 15), none, 68864, 13, []⟩])
 (.ret))⟩
/-- loop.example/g00849/spec.l17Sum -/
def F80 : F := ⟨1, 5, [.t 2],
 .seq (.reg [⟨(some 2), .mv (.k (.bool false)), none, 0, 0, []⟩])
 (.seq (.reg [⟨(some 3), .mv (.t 0), none, 65536, 0, []⟩,
   ⟨(some 4), .call 54 [(.t 3), (.k (.int .i64 0)), (.k (.int .i64 4294967295))] true, none, 65792, 1, []⟩,
   ⟨(some 2), .mv (.t 4), none, 66048, 2, []⟩])
 (.ret))⟩
/-- loop.example/g00849/impl.NameOk -/
def F81 : F := ⟨1, 31, [.t 2],
 .seq (.reg [⟨(some 2), .mv (.k (.bool false)), none, 0, 0, []⟩])
 (.seq (.seq (.reg [⟨(some 5), .mv (.t 0), none, 65536, 0, []⟩,
   ⟨(some 6), .len true (.t 5), none, 65792, 1, []⟩,
   ⟨(some 7), .mv (.k (.int .i64 0)), none, 66048, 2, []⟩])
 (.block 0 (.loop [0, 6, 7] []
  (.seq (.reg [⟨(some 8), .bin .lss (.t 7) (.t 6), none, 131072, 0, []⟩])
  (.seq (.cond (.t 8)
   (.skip)
   (.exit 0))
  (.seq (.block 1 (.seq (.reg [⟨(some 9), .mv (.t 7), none, 196608, 0, []⟩,
    ⟨(some 3), .mv (.t 9), none, 196864, 1, []⟩])
  (.seq (.reg [⟨(some 10), .mv (.t 0), none, 262144, 0, []⟩,
    ⟨(some 11), .mv (.t 3), none, 262400, 1, []⟩,
    ⟨(some 12), .idx (.t 10) (.t 11), none, 262656, 2, []⟩,
    ⟨(some 4), .mv (.t 12), none, 262912, 3, []⟩])
  (.seq (.reg [⟨(some 13), .mv (.t 4), none, 327680, 0, []⟩,
    ⟨(some 14), .bin .lss (.t 13) (.k (.int .u8 97)), none, 327936, 1, []⟩,
    ⟨(some 15), .mv (.t 14), none, 328192, 2, []⟩,
    ⟨(some 16), .mv (.t 4), (some (some 15, false)), 328448, 3, []⟩,
    ⟨(some 17), .bin .gtr (.t 16) (.k (.int .u8 122)), (some (some 15, false)), 328704, 4, []⟩,
    ⟨(some 18), .pick (.t 15) (.k (.bool true)) (.t 17), none, 328960, 5, []⟩,
    ⟨(some 19), .mv (.t 18), none, 329216, 6, []⟩,
    ⟨(some 20), .mv (.t 4), (some (some 19, true)), 329472, 7, []⟩,
    ⟨(some 21), .bin .lss (.t 20) (.k (.int .u8 48)), (some (some 19, true)), 329728, 8, []⟩,
    ⟨(some 22), .mv (.t 21), (some (some 19, true)), 329984, 9, []⟩,
    ⟨(some 23), .mv (.t 4), (some (some 22, false)), 330240, 10, []⟩,
    ⟨(some 24), .bin .gtr (.t 23) (.k (.int .u8 57)), (some (some 22, false)), 330496, 11, []⟩,
    ⟨(some 25), .pick (.t 22) (.k (.bool true)) (.t 24), (some (some 19, true)), 330752, 12, []⟩,
    ⟨(some 26), .pick (.t 19) (.t 25) (.k (.bool false)), none, 331008, 13, []⟩])
  (.cond (.t 26)
   (.seq (.reg [⟨(some 2), .mv (.k (.bool false)), none, 393216, 0, []⟩])
   (.ret))
   (.skip))))))
  (.reg [⟨(some 27), .bin .add (.t 7) (.k (.int .i64 1)), none, 458752, 0, []⟩,
    ⟨(some 7), .mv (.t 27), none, 459008, 1, []⟩])))))))
 (.seq (.reg [⟨(some 28), .mv (.t 0), none, 524288, 0, []⟩,
   ⟨(some 29), .len true (.t 28), none, 524544, 1, []⟩,
   ⟨(some 30), .call 65 [(.t 29), (.k (.int .i64 1)), (.k (.int .i64 8))] true, none, 524800, 2, []⟩,
   ⟨(some 2), .mv (.t 30), none, 525056, 3, []⟩])
 (.ret)))⟩
/-- loop.example/g00849/impl.reqOk -/
def F82 : F := ⟨1, 16, [.t 2],
 .seq (.reg [⟨(some 1), .box (.t 0), none, 0, 0, []⟩,
   ⟨(some 2), .mv (.k (.bool false)), none, 256, 1, []⟩])
 (.seq (.reg [⟨(some 3), .load 2 true (.t 1), none, 65536, 0, []⟩,
   ⟨(some 4), .build [(.int .i64 0), (.int .i64 0)] [], none, 65792, 1, []⟩,
   ⟨(some 5), .eqv false true [.i, .i] (.t 3) (.t 4), none, 66048, 2, []⟩,
   ⟨(some 6), .mv (.t 5), none, 66304, 3, []⟩,
   ⟨(some 7), .faddr 0 (.t 1), (some (some 6, false)), 66560, 4, []⟩,
   ⟨(some 8), .load 1 false (.t 7), (some (some 6, false)), 66816, 5, []⟩,
   ⟨(some 9), .call 100 [(.t 8)] true, (some (some 6, false)), 67072, 6, []⟩,
   ⟨(some 10), .mv (.t 9), (some (some 6, false)), 67328, 7, []⟩,
   ⟨(some 11), .faddr 1 (.t 1), (some (some 10, true)), 67584, 8, []⟩,
   ⟨(some 12), .load 1 false (.t 11), (some (some 10, true)), 67840, 9, []⟩,
   ⟨(some 13), .call 65 [(.t 12), (.k (.int .i64 1)), (.k (.int .i64 1000))] true, (some (some 10, true)), 68096, 10, []⟩,
   ⟨(some 14), .pick (.t 10) (.t 13) (.k (.bool false)), (some (some 6, false)), 68352, 11, []⟩,
   ⟨(some 15), .pick (.t 6) (.k (.bool true)) (.t 14), none, 68608, 12, []⟩,
   ⟨(some 2), .mv (.t 15), none, 68864, 13, []⟩])
 (.ret))⟩
/-- loop.example/g00849/impl.sizeOk -/
def F83 : F := ⟨2, 11, [.t 4],
 .seq (.reg [⟨(some 4), .mv (.k (.bool false)), none, 0, 0, []⟩])
 (.seq (.reg [⟨(some 5), .mv (.t 0), none, 65536, 0, []⟩,
   ⟨(some 6), .call 65 [(.t 5), (.k (.int .i64 0)), (.k (.int .i64 64))] true, none, 65792, 1, []⟩,
   ⟨(some 7), .mv (.t 6), none, 66048, 2, []⟩,
   ⟨(some 8), .mv (.t 1), (some (some 7, true)), 66304, 3, []⟩,
   ⟨(some 9), .call 65 [(.t 8), (.k (.int .i64 0)), (.k (.int .i64 4294967295))] true, (some (some 7, true)), 66560, 4, []⟩,
   ⟨(some 10), .pick (.t 7) (.t 9) (.k (.bool false)), none, 66816, 5, []⟩,
   ⟨(some 4), .mv (.t 10), none, 67072, 6, []⟩])
 (.ret))⟩
/-- loop.example/g00849/spec.l17Zero -/
def F84 : F := ⟨1, 6, [.t 2],
 .seq (.reg [⟨(some 1), .box (.t 0), none, 0, 0, []⟩,
   ⟨(some 2), .mv (.k (.bool false)), none, 256, 1, []⟩])
 (.seq (.reg [⟨(some 3), .load 2 true (.t 1), none, 65536, 0, []⟩,
   ⟨(some 4), .build [(.int .i64 0), (.int .i64 0)] [], none, 65792, 1, []⟩,
   ⟨(some 5), .eqv false true [.i, .i] (.t 3) (.t 4), none, 66048, 2, []⟩,
   ⟨(some 2), .mv (.t 5), none, 66304, 3, []⟩])
 (.ret))⟩
/-- loop.example/g00849/spec.l17Full -/
def F85 : F := ⟨1, 10, [.t 2],
 .seq (.reg [⟨(some 1), .box (.t 0), none, 0, 0, []⟩,
   ⟨(some 2), .mv (.k (.bool false)), none, 256, 1, []⟩])
 (.seq (.reg [⟨(some 3), .load 2 true (.t 1), none, 65536, 0, []⟩,
   ⟨(some 4), .call 55 [(.t 3)] true, none, 65792, 1, []⟩,
   ⟨(some 5), .mv (.t 4), none, 66048, 2, []⟩,
   ⟨(some 6), .load 2 true (.t 1), (some (some 5, true)), 66304, 3, []⟩,
   ⟨(some 7), .call 84 [(.t 6)] true, (some (some 5, true)), 66560, 4, []⟩,
   ⟨(some 8), .not (.t 7), (some (some 5, true)), 66816, 5, []⟩,
   ⟨(some 9), .pick (.t 5) (.t 8) (.k (.bool false)), none, 67072, 6, []⟩,
   ⟨(some 2), .mv (.t 9), none, 67328, 7, []⟩])
 (.ret))⟩
/-- loop.example/g00849/spec.l17Client -/
def F86 : F := ⟨1, 5, [.t 2],
 .seq (.reg [⟨(some 2), .mv (.k (.bool false)), none, 0, 0, []⟩])
 (.seq (.reg [⟨(some 3), .mv (.t 0), none, 65536, 0, []⟩,
   ⟨(some 4), .call 54 [(.t 3), (.k (.int .i64 100)), (.k (.int .i64 105))] true, none, 65792, 1, []⟩,
   ⟨(some 2), .mv (.t 4), none, 66048, 2, []⟩])
 (.ret))⟩
/-- loop.example/g00849/spec.ChunkOk -/
def F87 : F := ⟨1, 27, [.t 2],
 .seq (.reg [⟨(some 1), .box (.t 0), none, 0, 0, []⟩,
   ⟨(some 2), .mv (.k (.bool false)), none, 256, 1, []⟩])
 (.seq (.reg [⟨(some 3), .faddr 0 (.t 1), none, 65536, 0, []⟩,
   ⟨(some 4), .load 1 false (.t 3), none, 65792, 1, []⟩,
   ⟨(some 5), .call 78 [(.t 4)] true, none, 66048, 2, []⟩,
   ⟨(some 6), .mv (.t 5), none, 66304, 3, []⟩,
   ⟨(some 7), .faddr 1 (.t 1), (some (some 6, true)), 66560, 4, []⟩,
   ⟨(some 8), .load 2 true (.t 7), (some (some 6, true)), 66816, 5, []⟩,
   ⟨(some 9), .call 85 [(.t 8)] true, (some (some 6, true)), 67072, 6, []⟩,
   ⟨(some 10), .pick (.t 6) (.t 9) (.k (.bool false)), none, 67328, 7, []⟩,
   ⟨(some 11), .mv (.t 10), none, 67584, 8, []⟩,
   ⟨(some 12), .faddr 3 (.t 1), (some (some 11, true)), 67840, 9, []⟩,
   ⟨(some 13), .load 1 false (.t 12), (some (some 11, true)), 68096, 10, []⟩,
   ⟨(some 14), .call 54 [(.t 13), (.k (.int .i64 0)), (.k (.int .i64 6))] true, (some (some 11, true)), 68352, 11, []⟩,
   ⟨(some 15), .pick (.t 11) (.t 14) (.k (.bool false)), none, 68608, 12, []⟩,
   ⟨(some 16), .mv (.t 15), none, 68864, 13, []⟩,
   ⟨(some 17), .faddr 4 (.t 1), (some (some 16, true)), 69120, 14, []⟩,
   ⟨(some 18), .load 1 false (.t 17), (some (some 16, true)), 69376, 15, []⟩,
   ⟨(some 19), .call 80 [(.t 18)] true, (some (some 16, true)), 69632, 16, []⟩,
   ⟨(some 20), .pick (.t 16) (.t 19) (.k (.bool false)), none, 69888, 17, []⟩,
   ⟨(some 21), .mv (.t 20), none, 70144, 18, []⟩,
   ⟨(some 22), .faddr 5 (.t 1), (some (some 21, true)), 70400, 19, []⟩,
   ⟨(some 23), .load 1 false (.t 22), (some (some 21, true)), 70656, 20, []⟩,
   ⟨(some 24), .len true (.t 23), (some (some 21, true)), 70912, 21, []⟩,
   ⟨(some 25), .bin .leq (.t 24) (.k (.int .i64 64)), (some (some 21, true)), 71168, 22, []⟩,
   ⟨(some 26), .pick (.t 21) (.t 25) (.k (.bool false)), none, 71424, 23, []⟩,
   ⟨(some 2), .mv (.t 26), none, 71680, 24, []⟩])
 (.ret))⟩
/-- loop.example/g00849/spec.l17ChunkLess -/
def F88 : F := ⟨2, 30, [.t 4],
 .seq (.reg [⟨(some 2), .box (.t 0), none, 0, 0, []⟩,
   ⟨(some 3), .box (.t 1), none, 256, 1, []⟩,
   ⟨(some 4), .mv (.k (.bool false)), none, 512, 2, []⟩])
 (.seq (.seq (.reg [⟨(some 5), .faddr 0 (.t 2), none, 65536, 0, []⟩,
   ⟨(some 6), .load 1 false (.t 5), none, 65792, 1, []⟩,
   ⟨(some 7), .faddr 0 (.t 3), none, 66048, 2, []⟩,
   ⟨(some 8), .load 1 false (.t 7), none, 66304, 3, []⟩,
   ⟨(some 9), .bin .neq (.t 6) (.t 8), none, 66560, 4, []⟩])
 (.cond (.t 9)
  (.seq (.reg [⟨(some 10), .faddr 0 (.t 2), none, 131072, 0, []⟩,
    ⟨(some 11), .load 1 false (.t 10), none, 131328, 1, []⟩,
    ⟨(some 12), .faddr 0 (.t 3), none, 131584, 2, []⟩,
    ⟨(some 13), .load 1 false (.t 12), none, 131840, 3, []⟩,
    ⟨(some 14), .bin .lss (.t 11) (.t 13), none, 132096, 4, []⟩,
    ⟨(some 4), .mv (.t 14), none, 132352, 5, []⟩])
  (.ret))
  (.skip)))
 (.seq (.seq (.reg [⟨(some 15), .faddr 1 (.t 2), none, 196608, 0, []⟩,
   ⟨(some 16), .load 2 true (.t 15), none, 196864, 1, []⟩,
   ⟨(some 17), .faddr 1 (.t 3), none, 197120, 2, []⟩,
   ⟨(some 18), .load 2 true (.t 17), none, 197376, 3, []⟩,
   ⟨(some 19), .eqv true true [.i, .i] (.t 16) (.t 18), none, 197632, 4, []⟩])
 (.cond (.t 19)
  (.seq (.reg [⟨(some 20), .faddr 1 (.t 2), none, 262144, 0, []⟩,
    ⟨(some 21), .load 2 true (.t 20), none, 262400, 1, []⟩,
    ⟨(some 22), .faddr 1 (.t 3), none, 262656, 2, []⟩,
    ⟨(some 23), .load 2 true (.t 22), none, 262912, 3, []⟩,
    ⟨(some 24), .call 59 [(.t 21), (.t 23)] true, none, 263168, 4, []⟩,
    ⟨(some 4), .mv (.t 24), none, 263424, 5, []⟩])
  (.ret))
  (.skip)))
 (.seq (.reg [⟨(some 25), .faddr 3 (.t 2), none, 327680, 0, []⟩,
   ⟨(some 26), .load 1 false (.t 25), none, 327936, 1, []⟩,
   ⟨(some 27), .faddr 3 (.t 3), none, 328192, 2, []⟩,
   ⟨(some 28), .load 1 false (.t 27), none, 328448, 3, []⟩,
   ⟨(some 29), .bin .lss (.t 26) (.t 28), none, 328704, 4, []⟩,
   ⟨(some 4), .mv (.t 29), none, 328960, 5, []⟩])
 (.ret))))⟩
/-- (loop.example/g00849/impl.PgState).upToTail -/
def F89 : F := ⟨2, 19, [.t 4],
 .seq (.reg [⟨(some 2), .box (.t 0), none, 0, 0, []⟩,
   ⟨(some 3), .box (.t 1), none, 256, 1, []⟩,
   ⟨(some 4), .mv (.k (.bool false)), none, 512, 2, []⟩])
 (.seq (.reg [⟨(some 5), .load 2 true (.t 3), none, 65536, 0, []⟩,
   ⟨(some 6), .call 66 [(.t 5)] true, none, 65792, 1, []⟩,
   ⟨(some 7), .mv (.t 6), none, 66048, 2, []⟩,
   ⟨(some 8), .load 2 true (.t 3), (some (some 7, true)), 66304, 3, []⟩,
   ⟨(some 9), .build [(.int .i64 0), (.int .i64 0)] [], (some (some 7, true)), 66560, 4, []⟩,
   ⟨(some 10), .eqv true true [.i, .i] (.t 8) (.t 9), (some (some 7, true)), 66816, 5, []⟩,
   ⟨(some 11), .pick (.t 7) (.t 10) (.k (.bool false)), none, 67072, 6, []⟩,
   ⟨(some 12), .mv (.t 11), none, 67328, 7, []⟩,
   ⟨(some 13), .faddr 4 (.t 2), (some (some 12, true)), 67584, 8, []⟩,
   ⟨(some 14), .load 2 true (.t 13), (some (some 12, true)), 67840, 9, []⟩,
   ⟨(some 15), .load 2 true (.t 3), (some (some 12, true)), 68096, 10, []⟩,
   ⟨(some 16), .call 69 [(.t 14), (.t 15)] true, (some (some 12, true)), 68352, 11, []⟩,
   ⟨(some 17), .not (.t 16), (some (some 12, true)), 68608, 12, []⟩,
   ⟨(some 18), .pick (.t 12) (.t 17) (.k (.bool false)), none, 68864, 13, []⟩,
   ⟨(some 4), .mv (.t 18), none, 69120, 14, []⟩])
 (.ret))⟩
/-- loop.example/g00849/impl.compareVers -/
def F90 : F := ⟨2, 17, [.t 4],
 .seq (.reg [⟨(some 2), .box (.t 0), none, 0, 0, []⟩,
   ⟨(some 3), .box (.t 1), none, 256, 1, []⟩,
   ⟨(some 4), .mv (.k (.int .i64 0)), none, 512, 2, []⟩])
 (.seq (.reg [⟨(some 5), .faddr 0 (.t 2), none, 65536, 0, []⟩,
   ⟨(some 6), .load 1 false (.t 5), none, 65792, 1, []⟩,
   ⟨(some 7), .faddr 0 (.t 3), none, 66048, 2, []⟩,
   ⟨(some 8), .load 1 false (.t 7), none, 66304, 3, []⟩,
   ⟨(some 9), .call 102 [(.t 6), (.t 8)] true, none, 66560, 4, []⟩,
   ⟨(some 10), .faddr 1 (.t 2), none, 66816, 5, []⟩,
   ⟨(some 11), .load 1 false (.t 10), none, 67072, 6, []⟩,
   ⟨(some 12), .faddr 1 (.t 3), none, 67328, 7, []⟩,
   ⟨(some 13), .load 1 false (.t 12), none, 67584, 8, []⟩,
   ⟨(some 14), .call 102 [(.t 11), (.t 13)] true, none, 67840, 9, []⟩,
   ⟨(some 15), .bslice true 1 [(.int .i64 0)] 2 [(0, (.t 9)), (1, (.t 14))], none, 68096, 10, []⟩,
   ⟨(some 16), .call 101 [(.t 15)] true, none, 68352, 11, []⟩,
   ⟨(some 4), .mv (.t 16), none, 68608, 12, []⟩])
 (.ret))⟩
/-- loop.example/g00849/impl.last[loop.example/g00849/impl.Entry] -/
def F91 : F := ⟨1, 9, [.cell 2 10 true],
 .seq (.reg [⟨(some 2), .alloc [(.int .i64 0), (.int .i64 0), (.int .i64 0), (.int .i64 0), (.str ByteArray.empty), (.bool false), (.int .i64 0), (.int .i64 0), (.int .i64 0), (.int .i64 0)], none, 0, 0, []⟩])
 (.seq (.reg [⟨(some 3), .mv (.t 0), none, 65536, 0, []⟩,
   ⟨(some 4), .mv (.t 0), none, 65792, 1, []⟩,
   ⟨(some 5), .len false (.t 4), none, 66048, 2, []⟩,
   ⟨(some 6), .bin .sub (.t 5) (.k (.int .i64 1)), none, 66304, 3, []⟩,
   ⟨(some 7), .iaddr 10 (.t 3) (.t 6), none, 66560, 4, []⟩,
   ⟨(some 8), .load 10 true (.t 7), none, 66816, 5, []⟩,
   ⟨none, .store 10 (.t 2) (.t 8), none, 67072, 6, []⟩])
 (.ret))⟩
/-- loop.example/g00849/impl.ChunkOk -/
def F92 : F := ⟨1, 33, [.t 2],
 .seq (.reg [⟨(some 1), .box (.t 0), none, 0, 0, []⟩,
   ⟨(some 2), .mv (.k (.bool false)), none, 256, 1, []⟩])
 (.seq (.reg [⟨(some 3), .faddr 0 (.t 1), none, 65536, 0, []⟩,
   ⟨(some 4), .load 1 false (.t 3), none, 65792, 1, []⟩,
   ⟨(some 5), .call 81 [(.t 4)] true, none, 66048, 2, []⟩,
   ⟨(some 6), .mv (.t 5), none, 66304, 3, []⟩,
   ⟨(some 7), .faddr 1 (.t 1), (some (some 6, true)), 66560, 4, []⟩,
   ⟨(some 8), .load 2 true (.t 7), (some (some 6, true)), 66816, 5, []⟩,
   ⟨(some 9), .call 66 [(.t 8)] true, (some (some 6, true)), 67072, 6, []⟩,
   ⟨(some 10), .pick (.t 6) (.t 9) (.k (.bool false)), none, 67328, 7, []⟩,
   ⟨(some 11), .mv (.t 10), none, 67584, 8, []⟩,
   ⟨(some 12), .faddr 1 (.t 1), (some (some 11, true)), 67840, 9, []⟩,
   ⟨(some 13), .load 2 true (.t 12), (some (some 11, true)), 68096, 10, []⟩,
   ⟨(some 14), .build [(.int .i64 0), (.int .i64 0)] [], (some (some 11, true)), 68352, 11, []⟩,
   ⟨(some 15), .eqv true true [.i, .i] (.t 13) (.t 14), (some (some 11, true)), 68608, 12, []⟩,
   ⟨(some 16), .pick (.t 11) (.t 15) (.k (.bool false)), none, 68864, 13, []⟩,
   ⟨(some 17), .mv (.t 16), none, 69120, 14, []⟩,
   ⟨(some 18), .faddr 3 (.t 1), (some (some 17, true)), 69376, 15, []⟩,
   ⟨(some 19), .load 1 false (.t 18), (some (some 17, true)), 69632, 16, []⟩,
   ⟨(some 20), .call 65 [(.t 19), (.k (.int .i64 0)), (.k (.int .i64 6))] true, (some (some 17, true)), 69888, 17, []⟩,
   ⟨(some 21), .pick (.t 17) (.t 20) (.k (.bool false)), none, 70144, 18, []⟩,
   ⟨(some 22), .mv (.t 21), none, 70400, 19, []⟩,
   ⟨(some 23), .faddr 4 (.t 1), (some (some 22, true)), 70656, 20, []⟩,
   ⟨(some 24), .load 1 false (.t 23), (some (some 22, true)), 70912, 21, []⟩,
   ⟨(some 25), .call 65 [(.t 24), (.k (.int .i64 0)), (.k (.int .i64 4294967295))] true, (some (some 22, true)), 71168, 22, []⟩,
   ⟨(some 26), .pick (.t 22) (.t 25) (.k (.bool false)), none, 71424, 23, []⟩,
   ⟨(some 27), .mv (.t 26), none, 71680, 24, []⟩,
   ⟨(some 28), .faddr 5 (.t 1), (some (some 27, true)), 71936, 25, []⟩,
   ⟨(some 29), .load 1 false (.t 28), (some (some 27, true)), 72192, 26, []⟩,
   ⟨(some 30), .len true (.t 29), (some (some 27, true)), 72448, 27, []⟩,
   ⟨(some 31), .bin .leq (.t 30) (.k (.int .i64 64)), (some (some 27, true)), 72704, 28, []⟩,
   ⟨(some 32), .pick (.t 27) (.t 31) (.k (.bool false)), none, 72960, 29, []⟩,
   ⟨(some 2), .mv (.t 32), none, 73216, 30, []⟩])
 (.ret))⟩
/-- loop.example/g00849/impl.compareChunks -/
def F93 : F := ⟨2, 22, [.t 4],
 .seq (.reg [⟨(some 2), .box (.t 0), none, 0, 0, []⟩,
   ⟨(some 3), .box (.t 1), none, 256, 1, []⟩,
   ⟨(some 4), .mv (.k (.int .i64 0)), none, 512, 2, []⟩])
 (.seq (.reg [⟨(some 5), .faddr 0 (.t 2), none, 65536, 0, []⟩,
   ⟨(some 6), .load 1 false (.t 5), none, 65792, 1, []⟩,
   ⟨(some 7), .faddr 0 (.t 3), none, 66048, 2, []⟩,
   ⟨(some 8), .load 1 false (.t 7), none, 66304, 3, []⟩,
   ⟨(some 9), .call 103 [(.t 6), (.t 8)] true, none, 66560, 4, []⟩,
   ⟨(some 10), .faddr 1 (.t 2), none, 66816, 5, []⟩,
   ⟨(some 11), .load 2 true (.t 10), none, 67072, 6, []⟩,
   ⟨(some 12), .faddr 1 (.t 3), none, 67328, 7, []⟩,
   ⟨(some 13), .load 2 true (.t 12), none, 67584, 8, []⟩,
   ⟨(some 14), .call 90 [(.t 11), (.t 13)] true, none, 67840, 9, []⟩,
   ⟨(some 15), .faddr 3 (.t 2), none, 68096, 10, []⟩,
   ⟨(some 16), .load 1 false (.t 15), none, 68352, 11, []⟩,
   ⟨(some 17), .faddr 3 (.t 3), none, 68608, 12, []⟩,
   ⟨(some 18), .load 1 false (.t 17), none, 68864, 13, []⟩,
   ⟨(some 19), .call 102 [(.t 16), (.t 18)] true, none, 69120, 14, []⟩,
   ⟨(some 20), .bslice true 1 [(.int .i64 0)] 3 [(0, (.t 9)), (1, (.t 14)), (2, (.t 19))], none, 69376, 15, []⟩,
   ⟨(some 21), .call 101 [(.t 20)] true, none, 69632, 16, []⟩,
   ⟨(some 4), .mv (.t 21), none, 69888, 17, []⟩])
 (.ret))⟩
/-- slices.Clone[[]loop.example/g00849/impl.Head,loop.example/g00849/impl.Head] -/
def F94 : F := ⟨1, 8, [.t 2],
 .seq (.reg [⟨(some 2), .nil0 true 5, none, 0, 0, []⟩])
 (.seq (.seq (.reg [⟨(some 3), .mv (.t 0), none, 65536, 0, []⟩])
 (.ifnil false 4 (.t 3)
  (.seq (.reg [⟨(some 2), .nil0 true 5, none, 131072, 0, []⟩])
  (.ret))
  (.skip)))
 (.seq (.reg [⟨(some 5), .bslice true 5 [(.str ByteArray.empty), (.int .i64 0), (.int .i64 0), (.int .i64 0), (.int .i64 0)] 0 [], none, 196608, 0, []⟩,
   ⟨(some 6), .mv (.t 0), none, 196864, 1, []⟩,
   ⟨(some 7), .app true 5 48 (.t 5) (.t 6), none, 197120, 2, []⟩,
   ⟨(some 2), .mv (.t 7), none, 197376, 3, []⟩])
 (.ret)))⟩
/-- slices.Clone[[]loop.example/g00849/impl.Last,loop.example/g00849/impl.Last] -/
def F95 : F := ⟨1, 8, [.t 2],
 .seq (.reg [⟨(some 2), .nil0 true 4, none, 0, 0, []⟩])
 (.seq (.seq (.reg [⟨(some 3), .mv (.t 0), none, 65536, 0, []⟩])
 (.ifnil false 4 (.t 3)
  (.seq (.reg [⟨(some 2), .nil0 true 4, none, 131072, 0, []⟩])
  (.ret))
  (.skip)))
 (.seq (.reg [⟨(some 5), .bslice true 4 [(.int .i64 0), (.int .i64 0), (.int .i64 0), (.int .i64 0)] 0 [], none, 196608, 0, []⟩,
   ⟨(some 6), .mv (.t 0), none, 196864, 1, []⟩,
   ⟨(some 7), .app true 4 32 (.t 5) (.t 6), none, 197120, 2, []⟩,
   ⟨(some 2), .mv (.t 7), none, 197376, 3, []⟩])
 (.ret)))⟩
/-- slices.Clone[[]loop.example/g00849/impl.Entry,loop.example/g00849/impl.Entry] -/
def F96 : F := ⟨1, 8, [.t 2],
 .seq (.reg [⟨(some 2), .nil0 true 10, none, 0, 0, []⟩])
 (.seq (.seq (.reg [⟨(some 3), .mv (.t 0), none, 65536, 0, []⟩])
 (.ifnil false 4 (.t 3)
  (.seq (.reg [⟨(some 2), .nil0 true 10, none, 131072, 0, []⟩])
  (.ret))
  (.skip)))
 (.seq (.reg [⟨(some 5), .bslice true 10 [(.int .i64 0), (.int .i64 0), (.int .i64 0), (.int .i64 0), (.str ByteArray.empty), (.bool false), (.int .i64 0), (.int .i64 0), (.int .i64 0), (.int .i64 0)] 0 [], none, 196608, 0, []⟩,
   ⟨(some 6), .mv (.t 0), none, 196864, 1, []⟩,
   ⟨(some 7), .app true 10 88 (.t 5) (.t 6), none, 197120, 2, []⟩,
   ⟨(some 2), .mv (.t 7), none, 197376, 3, []⟩])
 (.ret)))⟩
/-- slices.Clone[[]loop.example/g00849/impl.Chunk,loop.example/g00849/impl.Chunk] -/
def F97 : F := ⟨1, 8, [.t 2],
 .seq (.reg [⟨(some 2), .nil0 true 6, none, 0, 0, []⟩])
 (.seq (.seq (.reg [⟨(some 3), .mv (.t 0), none, 65536, 0, []⟩])
 (.ifnil false 4 (.t 3)
  (.seq (.reg [⟨(some 2), .nil0 true 6, none, 131072, 0, []⟩])
  (.ret))
  (.skip)))
 (.seq (.reg [⟨(some 5), .bslice true 6 [(.str ByteArray.empty), (.int .i64 0), (.int .i64 0), (.int .i64 0), (.int .i64 0), (.str ByteArray.empty)] 0 [], none, 196608, 0, []⟩,
   ⟨(some 6), .mv (.t 0), none, 196864, 1, []⟩,
   ⟨(some 7), .app true 6 64 (.t 5) (.t 6), none, 197120, 2, []⟩,
   ⟨(some 2), .mv (.t 7), none, 197376, 3, []⟩])
 (.ret)))⟩
/-- loop.example/g00849/laws.eqReq -/
def F98 : F := ⟨2, 15, [.t 4],
 .seq (.reg [⟨(some 2), .box (.t 0), none, 0, 0, []⟩,
   ⟨(some 3), .box (.t 1), none, 256, 1, []⟩,
   ⟨(some 4), .mv (.k (.bool false)), none, 512, 2, []⟩])
 (.seq (.seq (.reg [⟨(some 5), .faddr 0 (.t 2), none, 65536, 0, []⟩,
   ⟨(some 6), .load 1 false (.t 5), none, 65792, 1, []⟩,
   ⟨(some 7), .faddr 0 (.t 3), none, 66048, 2, []⟩,
   ⟨(some 8), .load 1 false (.t 7), none, 66304, 3, []⟩,
   ⟨(some 9), .bin .neq (.t 6) (.t 8), none, 66560, 4, []⟩])
 (.cond (.t 9)
  (.seq (.reg [⟨(some 4), .mv (.k (.bool false)), none, 131072, 0, []⟩])
  (.ret))
  (.skip)))
 (.seq (.seq (.reg [⟨(some 10), .faddr 1 (.t 2), none, 196608, 0, []⟩,
   ⟨(some 11), .load 1 false (.t 10), none, 196864, 1, []⟩,
   ⟨(some 12), .faddr 1 (.t 3), none, 197120, 2, []⟩,
   ⟨(some 13), .load 1 false (.t 12), none, 197376, 3, []⟩,
   ⟨(some 14), .bin .neq (.t 11) (.t 13), none, 197632, 4, []⟩])
 (.cond (.t 14)
  (.seq (.reg [⟨(some 4), .mv (.k (.bool false)), none, 262144, 0, []⟩])
  (.ret))
  (.skip)))
 (.seq (.reg [⟨(some 4), .mv (.k (.bool true)), none, 327680, 0, []⟩])
 (.ret))))⟩
/-- loop.example/g00849/spec.l09Name -/
def F99 : F := ⟨1, 36, [.t 2],
 .seq (.reg [⟨(some 2), .mv (.k (.bool false)), none, 0, 0, []⟩])
 (.seq (.seq (.reg [⟨(some 5), .mv (.t 0), none, 65536, 0, []⟩,
   ⟨(some 6), .len true (.t 5), none, 65792, 1, []⟩,
   ⟨(some 7), .bin .lss (.t 6) (.k (.int .i64 1)), none, 66048, 2, []⟩,
   ⟨(some 8), .mv (.t 7), none, 66304, 3, []⟩,
   ⟨(some 9), .mv (.t 0), (some (some 8, false)), 66560, 4, []⟩,
   ⟨(some 10), .len true (.t 9), (some (some 8, false)), 66816, 5, []⟩,
   ⟨(some 11), .bin .gtr (.t 10) (.k (.int .i64 8)), (some (some 8, false)), 67072, 6, []⟩,
   ⟨(some 12), .pick (.t 8) (.k (.bool true)) (.t 11), none, 67328, 7, []⟩])
 (.cond (.t 12)
  (.seq (.reg [⟨(some 2), .mv (.k (.bool false)), none, 131072, 0, []⟩])
  (.ret))
  (.skip)))
 (.seq (.seq (.reg [⟨(some 3), .mv (.k (.int .i64 0)), none, 196608, 0, []⟩])
 (.block 0 (.loop [0, 3] []
  (.seq (.seq (.reg [⟨(some 13), .mv (.t 3), none, 262144, 0, []⟩,
    ⟨(some 14), .mv (.t 0), none, 262400, 1, []⟩,
    ⟨(some 15), .len true (.t 14), none, 262656, 2, []⟩,
    ⟨(some 16), .bin .lss (.t 13) (.t 15), none, 262912, 3, []⟩])
  (.cond (.t 16)
   (.skip)
   (.exit 0)))
  (.seq (.block 1 (.seq (.reg [⟨(some 19), .mv (.t 0), none, 393216, 0, []⟩,
    ⟨(some 20), .mv (.t 3), none, 393472, 1, []⟩,
    ⟨(some 21), .idx (.t 19) (.t 20), none, 393728, 2, []⟩,
    ⟨(some 4), .mv (.t 21), none, 393984, 3, []⟩])
  (.seq (.reg [⟨(some 22), .mv (.t 4), none, 458752, 0, []⟩,
    ⟨(some 23), .bin .lss (.t 22) (.k (.int .u8 97)), none, 459008, 1, []⟩,
    ⟨(some 24), .mv (.t 23), none, 459264, 2, []⟩,
    ⟨(some 25), .mv (.t 4), (some (some 24, false)), 459520, 3, []⟩,
    ⟨(some 26), .bin .gtr (.t 25) (.k (.int .u8 122)), (some (some 24, false)), 459776, 4, []⟩,
    ⟨(some 27), .pick (.t 24) (.k (.bool true)) (.t 26), none, 460032, 5, []⟩,
    ⟨(some 28), .mv (.t 27), none, 460288, 6, []⟩,
    ⟨(some 29), .mv (.t 4), (some (some 28, true)), 460544, 7, []⟩,
    ⟨(some 30), .bin .lss (.t 29) (.k (.int .u8 48)), (some (some 28, true)), 460800, 8, []⟩,
    ⟨(some 31), .mv (.t 30), (some (some 28, true)), 461056, 9, []⟩,
    ⟨(some 32), .mv (.t 4), (some (some 31, false)), 461312, 10, []⟩,
    ⟨(some 33), .bin .gtr (.t 32) (.k (.int .u8 57)), (some (some 31, false)), 461568, 11, []⟩,
    ⟨(some 34), .pick (.t 31) (.k (.bool true)) (.t 33), (some (some 28, true)), 461824, 12, []⟩,
    ⟨(some 35), .pick (.t 28) (.t 34) (.k (.bool false)), none, 462080, 13, []⟩])
  (.cond (.t 35)
   (.seq (.reg [⟨(some 2), .mv (.k (.bool false)), none, 524288, 0, []⟩])
   (.ret))
   (.skip)))))
  (.reg [⟨(some 17), .mv (.t 3), none, 327680, 0, []⟩,
    ⟨(some 18), .bin .add (.t 17) (.k (.int .i64 1)), none, 327936, 1, []⟩,
    ⟨(some 3), .mv (.t 18), none, 328192, 2, []⟩]))))))
 (.seq (.reg [⟨(some 2), .mv (.k (.bool true)), none, 589824, 0, []⟩])
 (.ret))))⟩
/-- loop.example/g00849/impl.isClient -/
def F100 : F := ⟨1, 5, [.t 2],
 .seq (.reg [⟨(some 2), .mv (.k (.bool false)), none, 0, 0, []⟩])
 (.seq (.reg [⟨(some 3), .mv (.t 0), none, 65536, 0, []⟩,
   ⟨(some 4), .call 65 [(.t 3), (.k (.int .i64 100)), (.k (.int .i64 105))] true, none, 65792, 1, []⟩,
   ⟨(some 2), .mv (.t 4), none, 66048, 2, []⟩])
 (.ret))⟩
/-- cmp.Or[int] -/
def F101 : F := ⟨1, 18, [.t 2],
 .seq (.reg [⟨(some 2), .mv (.k (.int .i64 0)), none, 0, 0, []⟩])
 (.seq (.reg [⟨(some 3), .mv (.k (.int .i64 0)), none, 65536, 0, []⟩])
 (.seq (.seq (.reg [⟨(some 6), .mv (.t 0), none, 131072, 0, []⟩,
   ⟨(some 7), .len false (.t 6), none, 131328, 1, []⟩,
   ⟨(some 8), .mv (.k (.int .i64 0)), none, 131584, 2, []⟩])
 (.block 0 (.loop [3, 6, 7, 8] []
  (.seq (.reg [⟨(some 9), .bin .lss (.t 8) (.t 7), none, 196608, 0, []⟩])
  (.seq (.cond (.t 9)
   (.skip)
   (.exit 0))
  (.seq (.block 1 (.seq (.reg [⟨(some 10), .iaddr 1 (.t 6) (.t 8), none, 262144, 0, []⟩,
    ⟨(some 11), .load 1 false (.t 10), none, 262400, 1, []⟩,
    ⟨(some 5), .mv (.t 11), none, 262656, 2, []⟩])
  (.seq (.reg [⟨(some 12), .mv (.t 5), none, 327680, 0, []⟩,
    ⟨(some 13), .mv (.t 3), none, 327936, 1, []⟩,
    ⟨(some 14), .bin .neq (.t 12) (.t 13), none, 328192, 2, []⟩])
  (.cond (.t 14)
   (.seq (.reg [⟨(some 15), .mv (.t 5), none, 393216, 0, []⟩,
     ⟨(some 2), .mv (.t 15), none, 393472, 1, []⟩])
   (.ret))
   (.skip)))))
  (.reg [⟨(some 16), .bin .add (.t 8) (.k (.int .i64 1)), none, 458752, 0, []⟩,
    ⟨(some 8), .mv (.t 16), none, 459008, 1, []⟩])))))))
 (.seq (.reg [⟨(some 17), .mv (.t 3), none, 524288, 0, []⟩,
   ⟨(some 2), .mv (.t 17), none, 524544, 1, []⟩])
 (.ret))))⟩
/-- cmp.Compare[int64] -/
def F102 : F := ⟨2, 20, [.t 4],
 .seq (.reg [⟨(some 4), .mv (.k (.int .i64 0)), none, 0, 0, []⟩])
 (.seq (.reg [⟨(some 7), .mv (.t 0), none, 65536, 0, []⟩,
   ⟨(some 8), .call 104 [(.t 7)] true, none, 65792, 1, []⟩,
   ⟨(some 5), .mv (.t 8), none, 66048, 2, []⟩])
 (.seq (.reg [⟨(some 9), .mv (.t 1), none, 131072, 0, []⟩,
   ⟨(some 10), .call 104 [(.t 9)] true, none, 131328, 1, []⟩,
   ⟨(some 6), .mv (.t 10), none, 131584, 2, []⟩])
 (.seq (.seq (.reg [⟨(some 11), .mv (.t 5), none, 196608, 0, []⟩])
 (.cond (.t 11)
  (.seq (.seq (.reg [⟨(some 12), .mv (.t 6), none, 262144, 0, []⟩])
  (.cond (.t 12)
   (.seq (.reg [⟨(some 4), .mv (.k (.int .i64 0)), none, 327680, 0, []⟩])
   (.ret))
   (.skip)))
  (.seq (.reg [⟨(some 4), .mv (.k (.int .i64 (-1))), none, 393216, 0, []⟩])
  (.ret)))
  (.skip)))
 (.seq (.seq (.reg [⟨(some 13), .mv (.t 6), none, 458752, 0, []⟩])
 (.cond (.t 13)
  (.seq (.reg [⟨(some 4), .mv (.k (.int .i64 1)), none, 524288, 0, []⟩])
  (.ret))
  (.skip)))
 (.seq (.seq (.reg [⟨(some 14), .mv (.t 0), none, 589824, 0, []⟩,
   ⟨(some 15), .mv (.t 1), none, 590080, 1, []⟩,
   ⟨(some 16), .bin .lss (.t 14) (.t 15), none, 590336, 2, []⟩])
 (.cond (.t 16)
  (.seq (.reg [⟨(some 4), .mv (.k (.int .i64 (-1))), none, 655360, 0, []⟩])
  (.ret))
  (.skip)))
 (.seq (.seq (.reg [⟨(some 17), .mv (.t 0), none, 720896, 0, []⟩,
   ⟨(some 18), .mv (.t 1), none, 721152, 1, []⟩,
   ⟨(some 19), .bin .gtr (.t 17) (.t 18), none, 721408, 2, []⟩])
 (.cond (.t 19)
  (.seq (.reg [⟨(some 4), .mv (.k (.int .i64 1)), none, 786432, 0, []⟩])
  (.ret))
  (.skip)))
 (.seq (.reg [⟨(some 4), .mv (.k (.int .i64 0)), none, 851968, 0, []⟩])
 (.ret))))))))⟩
/-- cmp.isNaN[int64] -/
def F104 : F := ⟨1, 6, [.t 2],
 .seq (.reg [⟨(some 2), .mv (.k (.bool false)), none, 0, 0, []⟩])
 (.seq (.reg [⟨(some 3), .mv (.t 0), none, 65536, 0, []⟩,
   ⟨(some 4), .mv (.t 0), none, 65792, 1, []⟩,
   ⟨(some 5), .bin .neq (.t 3) (.t 4), none, 66048, 2, []⟩,
   ⟨(some 2), .mv (.t 5), none, 66304, 3, []⟩])
 (.ret))⟩
def fns : Nat → Option F
  | 4 => some F4
  | 5 => some F5
  | 7 => some F7
  | 9 => some F9
  | 10 => some F10
  | 11 => some F11
  | 12 => some F12
  | 13 => some F13
  | 14 => some F14
  | 15 => some F15
  | 16 => some F16
  | 17 => some F17
  | 18 => some F18
  | 19 => some F19
  | 20 => some F20
  | 21 => some F21
  | 22 => some F22
  | 23 => some F23
  | 24 => some F24
  | 25 => some F25
  | 26 => some F26
  | 27 => some F27
  | 28 => some F28
  | 30 => some F30
  | 31 => some F31
  | 32 => some F32
  | 33 => some F33
  | 34 => some F34
  | 35 => some F35
  | 36 => some F36
  | 37 => some F37
  | 38 => some F38
  | 39 => some F39
  | 40 => some F40
  | 41 => some F41
  | 42 => some F42
  | 43 => some F43
  | 44 => some F44
  | 45 => some F45
  | 46 => some F46
  | 47 => some F47
  | 48 => some F48
  | 49 => some F49
  | 50 => some F50
  | 51 => some F51
  | 52 => some F52
  | 53 => some F53
  | 54 => some F54
  | 55 => some F55
  | 56 => some F56
  | 57 => some F57
  | 58 => some F58
  | 59 => some F59
  | 60 => some F60
  | 61 => some F61
  | 62 => some F62
  | 63 => some F63
  | 64 => some F64
  | 65 => some F65
  | 66 => some F66
  | 67 => some F67
  | 69 => some F69
  | 70 => some F70
  | 71 => some F71
  | 72 => some F72
  | 73 => some F73
  | 74 => some F74
  | 75 => some F75
  | 76 => some F76
  | 77 => some F77
  | 78 => some F78
  | 79 => some F79
  | 80 => some F80
  | 81 => some F81
  | 82 => some F82
  | 83 => some F83
  | 84 => some F84
  | 85 => some F85
  | 86 => some F86
  | 87 => some F87
  | 88 => some F88
  | 89 => some F89
  | 90 => some F90
  | 91 => some F91
  | 92 => some F92
  | 93 => some F93
  | 94 => some F94
  | 95 => some F95
  | 96 => some F96
  | 97 => some F97
  | 98 => some F98
  | 99 => some F99
  | 100 => some F100
  | 101 => some F101
  | 102 => some F102
  | 104 => some F104
  | _ => none
def nats : Nat → Option (List AV → Option (AV × List Blk))
  | 68 => some GA.natLogOk
  | 103 => some GA.natCmp
  | _ => none
def code : Prog := ⟨fns, md, nats⟩
theorem nat68 (k : Nat) (args : List AV) (E : List Heap) (v : AV) (bs : List Blk) (h : GA.natLogOk args = some (v, bs)) : call code (k + 1) 68 args E = some ⟨v, bs, E⟩ := call_nat rfl h
theorem nat103 (k : Nat) (args : List AV) (E : List Heap) (v : AV) (bs : List Blk) (h : GA.natCmp args = some (v, bs)) : call code (k + 1) 103 args E = some ⟨v, bs, E⟩ := call_nat rfl h
theorem fn4 : code.fn 4 = some F4 := rfl
theorem fn5 : code.fn 5 = some F5 := rfl
theorem fn7 : code.fn 7 = some F7 := rfl
theorem fn9 : code.fn 9 = some F9 := rfl
theorem fn10 : code.fn 10 = some F10 := rfl
theorem fn11 : code.fn 11 = some F11 := rfl
theorem fn12 : code.fn 12 = some F12 := rfl
theorem fn13 : code.fn 13 = some F13 := rfl
theorem fn14 : code.fn 14 = some F14 := rfl
theorem fn15 : code.fn 15 = some F15 := rfl
theorem fn16 : code.fn 16 = some F16 := rfl
theorem fn17 : code.fn 17 = some F17 := rfl
theorem fn18 : code.fn 18 = some F18 := rfl
theorem fn19 : code.fn 19 = some F19 := rfl
theorem fn20 : code.fn 20 = some F20 := rfl
theorem fn21 : code.fn 21 = some F21 := rfl
theorem fn22 : code.fn 22 = some F22 := rfl
theorem fn23 : code.fn 23 = some F23 := rfl
theorem fn24 : code.fn 24 = some F24 := rfl
theorem fn25 : code.fn 25 = some F25 := rfl
theorem fn26 : code.fn 26 = some F26 := rfl
theorem fn27 : code.fn 27 = some F27 := rfl
theorem fn28 : code.fn 28 = some F28 := rfl
theorem fn30 : code.fn 30 = some F30 := rfl
theorem fn31 : code.fn 31 = some F31 := rfl
theorem fn32 : code.fn 32 = some F32 := rfl
theorem fn33 : code.fn 33 = some F33 := rfl
theorem fn34 : code.fn 34 = some F34 := rfl
theorem fn35 : code.fn 35 = some F35 := rfl
theorem fn36 : code.fn 36 = some F36 := rfl
theorem fn37 : code.fn 37 = some F37 := rfl
theorem fn38 : code.fn 38 = some F38 := rfl
theorem fn39 : code.fn 39 = some F39 := rfl
theorem fn40 : code.fn 40 = some F40 := rfl
theorem fn41 : code.fn 41 = some F41 := rfl
theorem fn42 : code.fn 42 = some F42 := rfl
theorem fn43 : code.fn 43 = some F43 := rfl
theorem fn44 : code.fn 44 = some F44 := rfl
theorem fn45 : code.fn 45 = some F45 := rfl
theorem fn46 : code.fn 46 = some F46 := rfl
theorem fn47 : code.fn 47 = some F47 := rfl
theorem fn48 : code.fn 48 = some F48 := rfl
theorem fn49 : code.fn 49 = some F49 := rfl
theorem fn50 : code.fn 50 = some F50 := rfl
theorem fn51 : code.fn 51 = some F51 := rfl
theorem fn52 : code.fn 52 = some F52 := rfl
theorem fn53 : code.fn 53 = some F53 := rfl
theorem fn54 : code.fn 54 = some F54 := rfl
theorem fn55 : code.fn 55 = some F55 := rfl
theorem fn56 : code.fn 56 = some F56 := rfl
theorem fn57 : code.fn 57 = some F57 := rfl
theorem fn58 : code.fn 58 = some F58 := rfl
theorem fn59 : code.fn 59 = some F59 := rfl
theorem fn60 : code.fn 60 = some F60 := rfl
theorem fn61 : code.fn 61 = some F61 := rfl
theorem fn62 : code.fn 62 = some F62 := rfl
theorem fn63 : code.fn 63 = some F63 := rfl
theorem fn64 : code.fn 64 = some F64 := rfl
theorem fn65 : code.fn 65 = some F65 := rfl
theorem fn66 : code.fn 66 = some F66 := rfl
theorem fn67 : code.fn 67 = some F67 := rfl
theorem fn69 : code.fn 69 = some F69 := rfl
theorem fn70 : code.fn 70 = some F70 := rfl
theorem fn71 : code.fn 71 = some F71 := rfl
theorem fn72 : code.fn 72 = some F72 := rfl
theorem fn73 : code.fn 73 = some F73 := rfl
theorem fn74 : code.fn 74 = some F74 := rfl
theorem fn75 : code.fn 75 = some F75 := rfl
theorem fn76 : code.fn 76 = some F76 := rfl
theorem fn77 : code.fn 77 = some F77 := rfl
theorem fn78 : code.fn 78 = some F78 := rfl
theorem fn79 : code.fn 79 = some F79 := rfl
theorem fn80 : code.fn 80 = some F80 := rfl
theorem fn81 : code.fn 81 = some F81 := rfl
theorem fn82 : code.fn 82 = some F82 := rfl
theorem fn83 : code.fn 83 = some F83 := rfl
theorem fn84 : code.fn 84 = some F84 := rfl
theorem fn85 : code.fn 85 = some F85 := rfl
theorem fn86 : code.fn 86 = some F86 := rfl
theorem fn87 : code.fn 87 = some F87 := rfl
theorem fn88 : code.fn 88 = some F88 := rfl
theorem fn89 : code.fn 89 = some F89 := rfl
theorem fn90 : code.fn 90 = some F90 := rfl
theorem fn91 : code.fn 91 = some F91 := rfl
theorem fn92 : code.fn 92 = some F92 := rfl
theorem fn93 : code.fn 93 = some F93 := rfl
theorem fn94 : code.fn 94 = some F94 := rfl
theorem fn95 : code.fn 95 = some F95 := rfl
theorem fn96 : code.fn 96 = some F96 := rfl
theorem fn97 : code.fn 97 = some F97 := rfl
theorem fn98 : code.fn 98 = some F98 := rfl
theorem fn99 : code.fn 99 = some F99 := rfl
theorem fn100 : code.fn 100 = some F100 := rfl
theorem fn101 : code.fn 101 = some F101 := rfl
theorem fn102 : code.fn 102 = some F102 := rfl
theorem fn104 : code.fn 104 = some F104 := rfl
section
variable {O : Oracle} {st : St} {Q : Ex → St → Prop} {fs : List Fr} {d : Option Nat} {b i : Nat} {ap : List X} {r : List IOp} (xs : List X) (fl : Bool)
theorem rcall68 : RunO O code.md (⟨d, .call 68 xs fl, none, b, i, ap⟩ :: r) fs st Q = (quietOk st (.call 68 xs fl) ap = true ∧ RunQ O code.md (callVal O st b 68 (evalXs st xs) fl) d r fs st Q) := R_call 68 xs fl rfl
theorem rcall103 : RunO O code.md (⟨d, .call 103 xs fl, none, b, i, ap⟩ :: r) fs st Q = (quietOk st (.call 103 xs fl) ap = true ∧ RunQ O code.md (callVal O st b 103 (evalXs st xs) fl) d r fs st Q) := R_call 103 xs fl rfl
theorem rcall4 : RunO O code.md (⟨d, .call 4 xs fl, none, b, i, ap⟩ :: r) fs st Q = (quietOk st (.call 4 xs fl) ap = true ∧ RunQ O code.md (callVal O st b 4 (evalXs st xs) fl) d r fs st Q) := R_call 4 xs fl rfl
theorem rcall5 : RunO O code.md (⟨d, .call 5 xs fl, none, b, i, ap⟩ :: r) fs st Q = (quietOk st (.call 5 xs fl) ap = true ∧ RunQ O code.md (callVal O st b 5 (evalXs st xs) fl) d r fs st Q) := R_call 5 xs fl rfl
theorem rcall7 : RunO O code.md (⟨d, .call 7 xs fl, none, b, i, ap⟩ :: r) fs st Q = (quietOk st (.call 7 xs fl) ap = true ∧ RunQ O code.md (callVal O st b 7 (evalXs st xs) fl) d r fs st Q) := R_call 7 xs fl rfl
theorem rcall9 : RunO O code.md (⟨d, .call 9 xs fl, none, b, i, ap⟩ :: r) fs st Q = (quietOk st (.call 9 xs fl) ap = true ∧ RunQ O code.md (callVal O st b 9 (evalXs st xs) fl) d r fs st Q) := R_call 9 xs fl rfl
theorem rcall10 : RunO O code.md (⟨d, .call 10 xs fl, none, b, i, ap⟩ :: r) fs st Q = ((apartOk st (.call 10 xs fl) ap && keyedOk st ap) = true ∧ RunK O code.md (callRef O st b 10 (evalXs st xs) fl) st (.call 10 xs fl) ap d r fs Q) := R_callr 10 xs fl rfl
theorem rcall11 : RunO O code.md (⟨d, .call 11 xs fl, none, b, i, ap⟩ :: r) fs st Q = (quietOk st (.call 11 xs fl) ap = true ∧ RunQ O code.md (callVal O st b 11 (evalXs st xs) fl) d r fs st Q) := R_call 11 xs fl rfl
theorem rcall12 : RunO O code.md (⟨d, .call 12 xs fl, none, b, i, ap⟩ :: r) fs st Q = (quietOk st (.call 12 xs fl) ap = true ∧ RunQ O code.md (callVal O st b 12 (evalXs st xs) fl) d r fs st Q) := R_call 12 xs fl rfl
theorem rcall13 : RunO O code.md (⟨d, .call 13 xs fl, none, b, i, ap⟩ :: r) fs st Q = (quietOk st (.call 13 xs fl) ap = true ∧ RunQ O code.md (callVal O st b 13 (evalXs st xs) fl) d r fs st Q) := R_call 13 xs fl rfl
theorem rcall14 : RunO O code.md (⟨d, .call 14 xs fl, none, b, i, ap⟩ :: r) fs st Q = (quietOk st (.call 14 xs fl) ap = true ∧ RunQ O code.md (callVal O st b 14 (evalXs st xs) fl) d r fs st Q) := R_call 14 xs fl rfl
theorem rcall15 : RunO O code.md (⟨d, .call 15 xs fl, none, b, i, ap⟩ :: r) fs st Q = (quietOk st (.call 15 xs fl) ap = true ∧ RunQ O code.md (callVal O st b 15 (evalXs st xs) fl) d r fs st Q) := R_call 15 xs fl rfl
theorem rcall16 : RunO O code.md (⟨d, .call 16 xs fl, none, b, i, ap⟩ :: r) fs st Q = (quietOk st (.call 16 xs fl) ap = true ∧ RunQ O code.md (callVal O st b 16 (evalXs st xs) fl) d r fs st Q) := R_call 16 xs fl rfl
theorem rcall17 : RunO O code.md (⟨d, .call 17 xs fl, none, b, i, ap⟩ :: r) fs st Q = (quietOk st (.call 17 xs fl) ap = true ∧ RunQ O code.md (callVal O st b 17 (evalXs st xs) fl) d r fs st Q) := R_call 17 xs fl rfl
theorem rcall18 : RunO O code.md (⟨d, .call 18 xs fl, none, b, i, ap⟩ :: r) fs st Q = (quietOk st (.call 18 xs fl) ap = true ∧ RunQ O code.md (callVal O st b 18 (evalXs st xs) fl) d r fs st Q) := R_call 18 xs fl rfl
theorem rcall19 : RunO O code.md (⟨d, .call 19 xs fl, none, b, i, ap⟩ :: r) fs st Q = (quietOk st (.call 19 xs fl) ap = true ∧ RunQ O code.md (callVal O st b 19 (evalXs st xs) fl) d r fs st Q) := R_call 19 xs fl rfl
theorem rcall20 : RunO O code.md (⟨d, .call 20 xs fl, none, b, i, ap⟩ :: r) fs st Q = (quietOk st (.call 20 xs fl) ap = true ∧ RunQ O code.md (callVal O st b 20 (evalXs st xs) fl) d r fs st Q) := R_call 20 xs fl rfl
theorem rcall21 : RunO O code.md (⟨d, .call 21 xs fl, none, b, i, ap⟩ :: r) fs st Q = (quietOk st (.call 21 xs fl) ap = true ∧ RunQ O code.md (callVal O st b 21 (evalXs st xs) fl) d r fs st Q) := R_call 21 xs fl rfl
theorem rcall22 : RunO O code.md (⟨d, .call 22 xs fl, none, b, i, ap⟩ :: r) fs st Q = (quietOk st (.call 22 xs fl) ap = true ∧ RunQ O code.md (callVal O st b 22 (evalXs st xs) fl) d r fs st Q) := R_call 22 xs fl rfl
theorem rcall23 : RunO O code.md (⟨d, .call 23 xs fl, none, b, i, ap⟩ :: r) fs st Q = (quietOk st (.call 23 xs fl) ap = true ∧ RunQ O code.md (callVal O st b 23 (evalXs st xs) fl) d r fs st Q) := R_call 23 xs fl rfl
theorem rcall24 : RunO O code.md (⟨d, .call 24 xs fl, none, b, i, ap⟩ :: r) fs st Q = (quietOk st (.call 24 xs fl) ap = true ∧ RunQ O code.md (callVal O st b 24 (evalXs st xs) fl) d r fs st Q) := R_call 24 xs fl rfl
theorem rcall25 : RunO O code.md (⟨d, .call 25 xs fl, none, b, i, ap⟩ :: r) fs st Q = (quietOk st (.call 25 xs fl) ap = true ∧ RunQ O code.md (callVal O st b 25 (evalXs st xs) fl) d r fs st Q) := R_call 25 xs fl rfl
theorem rcall26 : RunO O code.md (⟨d, .call 26 xs fl, none, b, i, ap⟩ :: r) fs st Q = (quietOk st (.call 26 xs fl) ap = true ∧ RunQ O code.md (callVal O st b 26 (evalXs st xs) fl) d r fs st Q) := R_call 26 xs fl rfl
theorem rcall27 : RunO O code.md (⟨d, .call 27 xs fl, none, b, i, ap⟩ :: r) fs st Q = (quietOk st (.call 27 xs fl) ap = true ∧ RunQ O code.md (callVal O st b 27 (evalXs st xs) fl) d r fs st Q) := R_call 27 xs fl rfl
theorem rcall28 : RunO O code.md (⟨d, .call 28 xs fl, none, b, i, ap⟩ :: r) fs st Q = (quietOk st (.call 28 xs fl) ap = true ∧ RunQ O code.md (callVal O st b 28 (evalXs st xs) fl) d r fs st Q) := R_call 28 xs fl rfl
theorem rcall30 : RunO O code.md (⟨d, .call 30 xs fl, none, b, i, ap⟩ :: r) fs st Q = (quietOk st (.call 30 xs fl) ap = true ∧ RunQ O code.md (callVal O st b 30 (evalXs st xs) fl) d r fs st Q) := R_call 30 xs fl rfl
theorem rcall31 : RunO O code.md (⟨d, .call 31 xs fl, none, b, i, ap⟩ :: r) fs st Q = (quietOk st (.call 31 xs fl) ap = true ∧ RunQ O code.md (callVal O st b 31 (evalXs st xs) fl) d r fs st Q) := R_call 31 xs fl rfl
theorem rcall32 : RunO O code.md (⟨d, .call 32 xs fl, none, b, i, ap⟩ :: r) fs st Q = (quietOk st (.call 32 xs fl) ap = true ∧ RunQ O code.md (callVal O st b 32 (evalXs st xs) fl) d r fs st Q) := R_call 32 xs fl rfl
theorem rcall33 : RunO O code.md (⟨d, .call 33 xs fl, none, b, i, ap⟩ :: r) fs st Q = (quietOk st (.call 33 xs fl) ap = true ∧ RunQ O code.md (callVal O st b 33 (evalXs st xs) fl) d r fs st Q) := R_call 33 xs fl rfl
theorem rcall34 : RunO O code.md (⟨d, .call 34 xs fl, none, b, i, ap⟩ :: r) fs st Q = (quietOk st (.call 34 xs fl) ap = true ∧ RunQ O code.md (callVal O st b 34 (evalXs st xs) fl) d r fs st Q) := R_call 34 xs fl rfl
theorem rcall35 : RunO O code.md (⟨d, .call 35 xs fl, none, b, i, ap⟩ :: r) fs st Q = (quietOk st (.call 35 xs fl) ap = true ∧ RunQ O code.md (callVal O st b 35 (evalXs st xs) fl) d r fs st Q) := R_call 35 xs fl rfl
theorem rcall36 : RunO O code.md (⟨d, .call 36 xs fl, none, b, i, ap⟩ :: r) fs st Q = ((apartOk st (.call 36 xs fl) ap && keyedOk st ap) = true ∧ RunK O code.md (callRef O st b 36 (evalXs st xs) fl) st (.call 36 xs fl) ap d r fs Q) := R_callr 36 xs fl rfl
theorem rcall37 : RunO O code.md (⟨d, .call 37 xs fl, none, b, i, ap⟩ :: r) fs st Q = ((apartOk st (.call 37 xs fl) ap && keyedOk st ap) = true ∧ RunK O code.md (callRef O st b 37 (evalXs st xs) fl) st (.call 37 xs fl) ap d r fs Q) := R_callr 37 xs fl rfl
theorem rcall38 : RunO O code.md (⟨d, .call 38 xs fl, none, b, i, ap⟩ :: r) fs st Q = ((apartOk st (.call 38 xs fl) ap && keyedOk st ap) = true ∧ RunK O code.md (callRef O st b 38 (evalXs st xs) fl) st (.call 38 xs fl) ap d r fs Q) := R_callr 38 xs fl rfl
theorem rcall39 : RunO O code.md (⟨d, .call 39 xs fl, none, b, i, ap⟩ :: r) fs st Q = ((apartOk st (.call 39 xs fl) ap && keyedOk st ap) = true ∧ RunK O code.md (callRef O st b 39 (evalXs st xs) fl) st (.call 39 xs fl) ap d r fs Q) := R_callr 39 xs fl rfl
theorem rcall40 : RunO O code.md (⟨d, .call 40 xs fl, none, b, i, ap⟩ :: r) fs st Q = (quietOk st (.call 40 xs fl) ap = true ∧ RunQ O code.md (callVal O st b 40 (evalXs st xs) fl) d r fs st Q) := R_call 40 xs fl rfl
theorem rcall41 : RunO O code.md (⟨d, .call 41 xs fl, none, b, i, ap⟩ :: r) fs st Q = (quietOk st (.call 41 xs fl) ap = true ∧ RunQ O code.md (callVal O st b 41 (evalXs st xs) fl) d r fs st Q) := R_call 41 xs fl rfl
theorem rcall42 : RunO O code.md (⟨d, .call 42 xs fl, none, b, i, ap⟩ :: r) fs st Q = (quietOk st (.call 42 xs fl) ap = true ∧ RunQ O code.md (callVal O st b 42 (evalXs st xs) fl) d r fs st Q) := R_call 42 xs fl rfl
theorem rcall43 : RunO O code.md (⟨d, .call 43 xs fl, none, b, i, ap⟩ :: r) fs st Q = (quietOk st (.call 43 xs fl) ap = true ∧ RunQ O code.md (callVal O st b 43 (evalXs st xs) fl) d r fs st Q) := R_call 43 xs fl rfl
theorem rcall44 : RunO O code.md (⟨d, .call 44 xs fl, none, b, i, ap⟩ :: r) fs st Q = (quietOk st (.call 44 xs fl) ap = true ∧ RunQ O code.md (callVal O st b 44 (evalXs st xs) fl) d r fs st Q) := R_call 44 xs fl rfl
theorem rcall45 : RunO O code.md (⟨d, .call 45 xs fl, none, b, i, ap⟩ :: r) fs st Q = (quietOk st (.call 45 xs fl) ap = true ∧ RunQ O code.md (callVal O st b 45 (evalXs st xs) fl) d r fs st Q) := R_call 45 xs fl rfl
theorem rcall46 : RunO O code.md (⟨d, .call 46 xs fl, none, b, i, ap⟩ :: r) fs st Q = (quietOk st (.call 46 xs fl) ap = true ∧ RunQ O code.md (callVal O st b 46 (evalXs st xs) fl) d r fs st Q) := R_call 46 xs fl rfl
theorem rcall47 : RunO O code.md (⟨d, .call 47 xs fl, none, b, i, ap⟩ :: r) fs st Q = (quietOk st (.call 47 xs fl) ap = true ∧ RunQ O code.md (callVal O st b 47 (evalXs st xs) fl) d r fs st Q) := R_call 47 xs fl rfl
theorem rcall48 : RunO O code.md (⟨d, .call 48 xs fl, none, b, i, ap⟩ :: r) fs st Q = (quietOk st (.call 48 xs fl) ap = true ∧ RunQ O code.md (callVal O st b 48 (evalXs st xs) fl) d r fs st Q) := R_call 48 xs fl rfl
theorem rcall49 : RunO O code.md (⟨d, .call 49 xs fl, none, b, i, ap⟩ :: r) fs st Q = (quietOk st (.call 49 xs fl) ap = true ∧ RunQ O code.md (callVal O st b 49 (evalXs st xs) fl) d r fs st Q) := R_call 49 xs fl rfl
theorem rcall50 : RunO O code.md (⟨d, .call 50 xs fl, none, b, i, ap⟩ :: r) fs st Q = (quietOk st (.call 50 xs fl) ap = true ∧ RunQ O code.md (callVal O st b 50 (evalXs st xs) fl) d r fs st Q) := R_call 50 xs fl rfl
theorem rcall51 : RunO O code.md (⟨d, .call 51 xs fl, none, b, i, ap⟩ :: r) fs st Q = (quietOk st (.call 51 xs fl) ap = true ∧ RunQ O code.md (callVal O st b 51 (evalXs st xs) fl) d r fs st Q) := R_call 51 xs fl rfl
theorem rcall52 : RunO O code.md (⟨d, .call 52 xs fl, none, b, i, ap⟩ :: r) fs st Q = (quietOk st (.call 52 xs fl) ap = true ∧ RunQ O code.md (callVal O st b 52 (evalXs st xs) fl) d r fs st Q) := R_call 52 xs fl rfl
theorem rcall53 : RunO O code.md (⟨d, .call 53 xs fl, none, b, i, ap⟩ :: r) fs st Q = (quietOk st (.call 53 xs fl) ap = true ∧ RunQ O code.md (callVal O st b 53 (evalXs st xs) fl) d r fs st Q) := R_call 53 xs fl rfl
theorem rcall54 : RunO O code.md (⟨d, .call 54 xs fl, none, b, i, ap⟩ :: r) fs st Q = (quietOk st (.call 54 xs fl) ap = true ∧ RunQ O code.md (callVal O st b 54 (evalXs st xs) fl) d r fs st Q) := R_call 54 xs fl rfl
theorem rcall55 : RunO O code.md (⟨d, .call 55 xs fl, none, b, i, ap⟩ :: r) fs st Q = (quietOk st (.call 55 xs fl) ap = true ∧ RunQ O code.md (callVal O st b 55 (evalXs st xs) fl) d r fs st Q) := R_call 55 xs fl rfl
theorem rcall56 : RunO O code.md (⟨d, .call 56 xs fl, none, b, i, ap⟩ :: r) fs st Q = (quietOk st (.call 56 xs fl) ap = true ∧ RunQ O code.md (callVal O st b 56 (evalXs st xs) fl) d r fs st Q) := R_call 56 xs fl rfl
theorem rcall57 : RunO O code.md (⟨d, .call 57 xs fl, none, b, i, ap⟩ :: r) fs st Q = (quietOk st (.call 57 xs fl) ap = true ∧ RunQ O code.md (callVal O st b 57 (evalXs st xs) fl) d r fs st Q) := R_call 57 xs fl rfl
theorem rcall58 : RunO O code.md (⟨d, .call 58 xs fl, none, b, i, ap⟩ :: r) fs st Q = (quietOk st (.call 58 xs fl) ap = true ∧ RunQ O code.md (callVal O st b 58 (evalXs st xs) fl) d r fs st Q) := R_call 58 xs fl rfl
theorem rcall59 : RunO O code.md (⟨d, .call 59 xs fl, none, b, i, ap⟩ :: r) fs st Q = (quietOk st (.call 59 xs fl) ap = true ∧ RunQ O code.md (callVal O st b 59 (evalXs st xs) fl) d r fs st Q) := R_call 59 xs fl rfl
theorem rcall60 : RunO O code.md (⟨d, .call 60 xs fl, none, b, i, ap⟩ :: r) fs st Q = (quietOk st (.call 60 xs fl) ap = true ∧ RunQ O code.md (callVal O st b 60 (evalXs st xs) fl) d r fs st Q) := R_call 60 xs fl rfl
theorem rcall61 : RunO O code.md (⟨d, .call 61 xs fl, none, b, i, ap⟩ :: r) fs st Q = (quietOk st (.call 61 xs fl) ap = true ∧ RunQ O code.md (callVal O st b 61 (evalXs st xs) fl) d r fs st Q) := R_call 61 xs fl rfl
theorem rcall62 : RunO O code.md (⟨d, .call 62 xs fl, none, b, i, ap⟩ :: r) fs st Q = (quietOk st (.call 62 xs fl) ap = true ∧ RunQ O code.md (callVal O st b 62 (evalXs st xs) fl) d r fs st Q) := R_call 62 xs fl rfl
theorem rcall63 : RunO O code.md (⟨d, .call 63 xs fl, none, b, i, ap⟩ :: r) fs st Q = (quietOk st (.call 63 xs fl) ap = true ∧ RunQ O code.md (callVal O st b 63 (evalXs st xs) fl) d r fs st Q) := R_call 63 xs fl rfl
theorem rcall64 : RunO O code.md (⟨d, .call 64 xs fl, none, b, i, ap⟩ :: r) fs st Q = (quietOk st (.call 64 xs fl) ap = true ∧ RunQ O code.md (callVal O st b 64 (evalXs st xs) fl) d r fs st Q) := R_call 64 xs fl rfl
theorem rcall65 : RunO O code.md (⟨d, .call 65 xs fl, none, b, i, ap⟩ :: r) fs st Q = (quietOk st (.call 65 xs fl) ap = true ∧ RunQ O code.md (callVal O st b 65 (evalXs st xs) fl) d r fs st Q) := R_call 65 xs fl rfl
theorem rcall66 : RunO O code.md (⟨d, .call 66 xs fl, none, b, i, ap⟩ :: r) fs st Q = (quietOk st (.call 66 xs fl) ap = true ∧ RunQ O code.md (callVal O st b 66 (evalXs st xs) fl) d r fs st Q) := R_call 66 xs fl rfl
theorem rcall67 : RunO O code.md (⟨d, .call 67 xs fl, none, b, i, ap⟩ :: r) fs st Q = (quietOk st (.call 67 xs fl) ap = true ∧ RunQ O code.md (callVal O st b 67 (evalXs st xs) fl) d r fs st Q) := R_call 67 xs fl rfl
theorem rcall69 : RunO O code.md (⟨d, .call 69 xs fl, none, b, i, ap⟩ :: r) fs st Q = (quietOk st (.call 69 xs fl) ap = true ∧ RunQ O code.md (callVal O st b 69 (evalXs st xs) fl) d r fs st Q) := R_call 69 xs fl rfl
theorem rcall70 : RunO O code.md (⟨d, .call 70 xs fl, none, b, i, ap⟩ :: r) fs st Q = (quietOk st (.call 70 xs fl) ap = true ∧ RunQ O code.md (callVal O st b 70 (evalXs st xs) fl) d r fs st Q) := R_call 70 xs fl rfl
theorem rcall71 : RunO O code.md (⟨d, .call 71 xs fl, none, b, i, ap⟩ :: r) fs st Q = (quietOk st (.call 71 xs fl) ap = true ∧ RunQ O code.md (callVal O st b 71 (evalXs st xs) fl) d r fs st Q) := R_call 71 xs fl rfl
theorem rcall72 : RunO O code.md (⟨d, .call 72 xs fl, none, b, i, ap⟩ :: r) fs st Q = (quietOk st (.call 72 xs fl) ap = true ∧ RunQ O code.md (callVal O st b 72 (evalXs st xs) fl) d r fs st Q) := R_call 72 xs fl rfl
theorem rcall73 : RunO O code.md (⟨d, .call 73 xs fl, none, b, i, ap⟩ :: r) fs st Q = (quietOk st (.call 73 xs fl) ap = true ∧ RunQ O code.md (callVal O st b 73 (evalXs st xs) fl) d r fs st Q) := R_call 73 xs fl rfl
theorem rcall74 : RunO O code.md (⟨d, .call 74 xs fl, none, b, i, ap⟩ :: r) fs st Q = (quietOk st (.call 74 xs fl) ap = true ∧ RunQ O code.md (callVal O st b 74 (evalXs st xs) fl) d r fs st Q) := R_call 74 xs fl rfl
theorem rcall75 : RunO O code.md (⟨d, .call 75 xs fl, none, b, i, ap⟩ :: r) fs st Q = (quietOk st (.call 75 xs fl) ap = true ∧ RunQ O code.md (callVal O st b 75 (evalXs st xs) fl) d r fs st Q) := R_call 75 xs fl rfl
theorem rcall76 : RunO O code.md (⟨d, .call 76 xs fl, none, b, i, ap⟩ :: r) fs st Q = (quietOk st (.call 76 xs fl) ap = true ∧ RunQ O code.md (callVal O st b 76 (evalXs st xs) fl) d r fs st Q) := R_call 76 xs fl rfl
theorem rcall77 : RunO O code.md (⟨d, .call 77 xs fl, none, b, i, ap⟩ :: r) fs st Q = (quietOk st (.call 77 xs fl) ap = true ∧ RunQ O code.md (callVal O st b 77 (evalXs st xs) fl) d r fs st Q) := R_call 77 xs fl rfl
theorem rcall78 : RunO O code.md (⟨d, .call 78 xs fl, none, b, i, ap⟩ :: r) fs st Q = (quietOk st (.call 78 xs fl) ap = true ∧ RunQ O code.md (callVal O st b 78 (evalXs st xs) fl) d r fs st Q) := R_call 78 xs fl rfl
theorem rcall79 : RunO O code.md (⟨d, .call 79 xs fl, none, b, i, ap⟩ :: r) fs st Q = (quietOk st (.call 79 xs fl) ap = true ∧ RunQ O code.md (callVal O st b 79 (evalXs st xs) fl) d r fs st Q) := R_call 79 xs fl rfl
theorem rcall80 : RunO O code.md (⟨d, .call 80 xs fl, none, b, i, ap⟩ :: r) fs st Q = (quietOk st (.call 80 xs fl) ap = true ∧ RunQ O code.md (callVal O st b 80 (evalXs st xs) fl) d r fs st Q) := R_call 80 xs fl rfl
theorem rcall81 : RunO O code.md (⟨d, .call 81 xs fl, none, b, i, ap⟩ :: r) fs st Q = (quietOk st (.call 81 xs fl) ap = true ∧ RunQ O code.md (callVal O st b 81 (evalXs st xs) fl) d r fs st Q) := R_call 81 xs fl rfl
theorem rcall82 : RunO O code.md (⟨d, .call 82 xs fl, none, b, i, ap⟩ :: r) fs st Q = (quietOk st (.call 82 xs fl) ap = true ∧ RunQ O code.md (callVal O st b 82 (evalXs st xs) fl) d r fs st Q) := R_call 82 xs fl rfl
theorem rcall83 : RunO O code.md (⟨d, .call 83 xs fl, none, b, i, ap⟩ :: r) fs st Q = (quietOk st (.call 83 xs fl) ap = true ∧ RunQ O code.md (callVal O st b 83 (evalXs st xs) fl) d r fs st Q) := R_call 83 xs fl rfl
theorem rcall84 : RunO O code.md (⟨d, .call 84 xs fl, none, b, i, ap⟩ :: r) fs st Q = (quietOk st (.call 84 xs fl) ap = true ∧ RunQ O code.md (callVal O st b 84 (evalXs st xs) fl) d r fs st Q) := R_call 84 xs fl rfl
theorem rcall85 : RunO O code.md (⟨d, .call 85 xs fl, none, b, i, ap⟩ :: r) fs st Q = (quietOk st (.call 85 xs fl) ap = true ∧ RunQ O code.md (callVal O st b 85 (evalXs st xs) fl) d r fs st Q) := R_call 85 xs fl rfl
theorem rcall86 : RunO O code.md (⟨d, .call 86 xs fl, none, b, i, ap⟩ :: r) fs st Q = (quietOk st (.call 86 xs fl) ap = true ∧ RunQ O code.md (callVal O st b 86 (evalXs st xs) fl) d r fs st Q) := R_call 86 xs fl rfl
theorem rcall87 : RunO O code.md (⟨d, .call 87 xs fl, none, b, i, ap⟩ :: r) fs st Q = (quietOk st (.call 87 xs fl) ap = true ∧ RunQ O code.md (callVal O st b 87 (evalXs st xs) fl) d r fs st Q) := R_call 87 xs fl rfl
theorem rcall88 : RunO O code.md (⟨d, .call 88 xs fl, none, b, i, ap⟩ :: r) fs st Q = (quietOk st (.call 88 xs fl) ap = true ∧ RunQ O code.md (callVal O st b 88 (evalXs st xs) fl) d r fs st Q) := R_call 88 xs fl rfl
theorem rcall89 : RunO O code.md (⟨d, .call 89 xs fl, none, b, i, ap⟩ :: r) fs st Q = (quietOk st (.call 89 xs fl) ap = true ∧ RunQ O code.md (callVal O st b 89 (evalXs st xs) fl) d r fs st Q) := R_call 89 xs fl rfl
theorem rcall90 : RunO O code.md (⟨d, .call 90 xs fl, none, b, i, ap⟩ :: r) fs st Q = (quietOk st (.call 90 xs fl) ap = true ∧ RunQ O code.md (callVal O st b 90 (evalXs st xs) fl) d r fs st Q) := R_call 90 xs fl rfl
theorem rcall91 : RunO O code.md (⟨d, .call 91 xs fl, none, b, i, ap⟩ :: r) fs st Q = (quietOk st (.call 91 xs fl) ap = true ∧ RunQ O code.md (callVal O st b 91 (evalXs st xs) fl) d r fs st Q) := R_call 91 xs fl rfl
theorem rcall92 : RunO O code.md (⟨d, .call 92 xs fl, none, b, i, ap⟩ :: r) fs st Q = (quietOk st (.call 92 xs fl) ap = true ∧ RunQ O code.md (callVal O st b 92 (evalXs st xs) fl) d r fs st Q) := R_call 92 xs fl rfl
theorem rcall93 : RunO O code.md (⟨d, .call 93 xs fl, none, b, i, ap⟩ :: r) fs st Q = (quietOk st (.call 93 xs fl) ap = true ∧ RunQ O code.md (callVal O st b 93 (evalXs st xs) fl) d r fs st Q) := R_call 93 xs fl rfl
theorem rcall94 : RunO O code.md (⟨d, .call 94 xs fl, none, b, i, ap⟩ :: r) fs st Q = (quietOk st (.call 94 xs fl) ap = true ∧ RunQ O code.md (callVal O st b 94 (evalXs st xs) fl) d r fs st Q) := R_call 94 xs fl rfl
theorem rcall95 : RunO O code.md (⟨d, .call 95 xs fl, none, b, i, ap⟩ :: r) fs st Q = (quietOk st (.call 95 xs fl) ap = true ∧ RunQ O code.md (callVal O st b 95 (evalXs st xs) fl) d r fs st Q) := R_call 95 xs fl rfl
theorem rcall96 : RunO O code.md (⟨d, .call 96 xs fl, none, b, i, ap⟩ :: r) fs st Q = (quietOk st (.call 96 xs fl) ap = true ∧ RunQ O code.md (callVal O st b 96 (evalXs st xs) fl) d r fs st Q) := R_call 96 xs fl rfl
theorem rcall97 : RunO O code.md (⟨d, .call 97 xs fl, none, b, i, ap⟩ :: r) fs st Q = (quietOk st (.call 97 xs fl) ap = true ∧ RunQ O code.md (callVal O st b 97 (evalXs st xs) fl) d r fs st Q) := R_call 97 xs fl rfl
theorem rcall98 : RunO O code.md (⟨d, .call 98 xs fl, none, b, i, ap⟩ :: r) fs st Q = (quietOk st (.call 98 xs fl) ap = true ∧ RunQ O code.md (callVal O st b 98 (evalXs st xs) fl) d r fs st Q) := R_call 98 xs fl rfl
theorem rcall99 : RunO O code.md (⟨d, .call 99 xs fl, none, b, i, ap⟩ :: r) fs st Q = (quietOk st (.call 99 xs fl) ap = true ∧ RunQ O code.md (callVal O st b 99 (evalXs st xs) fl) d r fs st Q) := R_call 99 xs fl rfl
theorem rcall100 : RunO O code.md (⟨d, .call 100 xs fl, none, b, i, ap⟩ :: r) fs st Q = (quietOk st (.call 100 xs fl) ap = true ∧ RunQ O code.md (callVal O st b 100 (evalXs st xs) fl) d r fs st Q) := R_call 100 xs fl rfl
theorem rcall101 : RunO O code.md (⟨d, .call 101 xs fl, none, b, i, ap⟩ :: r) fs st Q = (quietOk st (.call 101 xs fl) ap = true ∧ RunQ O code.md (callVal O st b 101 (evalXs st xs) fl) d r fs st Q) := R_call 101 xs fl rfl
theorem rcall102 : RunO O code.md (⟨d, .call 102 xs fl, none, b, i, ap⟩ :: r) fs st Q = (quietOk st (.call 102 xs fl) ap = true ∧ RunQ O code.md (callVal O st b 102 (evalXs st xs) fl) d r fs st Q) := R_call 102 xs fl rfl
theorem rcall104 : RunO O code.md (⟨d, .call 104 xs fl, none, b, i, ap⟩ :: r) fs st Q = (quietOk st (.call 104 xs fl) ap = true ∧ RunQ O code.md (callVal O st b 104 (evalXs st xs) fl) d r fs st Q) := R_call 104 xs fl rfl
end
end Go.Ae.GA
