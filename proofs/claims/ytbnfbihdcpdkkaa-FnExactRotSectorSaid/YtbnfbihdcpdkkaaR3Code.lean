/- The code of the functions, for the evaluator. -/
import Derived.Test.YtbnfbihdcpdkkaaAeWp
namespace Go.Ae.R3

def md : Nat → Mode
  | 22 => .ref
  | 30 => .ref
  | 51 => .ref
  | _ => .val
/-- loop.example/g00849/laws.FnExactWriteSector -/
def F5 : F := ⟨3, 109, [.t 6],
 .seq (.reg [⟨(some 3), .box (.t 0), none, 0, 0, []⟩,
   ⟨(some 6), .mv (.k (.bool false)), none, 256, 1, []⟩])
 (.seq (.seq (.reg [⟨(some 18), .mv (.t 2), none, 65536, 0, []⟩,
   ⟨(some 19), .len true (.t 18), none, 65792, 1, []⟩,
   ⟨(some 20), .bin .gtr (.t 19) (.k (.int .i64 1048576)), none, 66048, 2, []⟩])
 (.cond (.t 20)
  (.seq (.reg [⟨(some 6), .mv (.k (.bool true)), none, 131072, 0, []⟩])
  (.ret))
  (.skip)))
 (.seq (.reg [⟨(some 7), .mv (.k (.int .i64 1048576)), none, 196608, 0, []⟩])
 (.seq (.reg [⟨(some 21), .load 2 true (.t 3), none, 262144, 0, []⟩,
   ⟨(some 22), .mv (.t 7), none, 262400, 1, []⟩,
   ⟨(some 23), .call 18 [(.t 21), (.t 22)] true, none, 262656, 2, []⟩,
   ⟨(some 7), .mv (.t 23), none, 262912, 3, []⟩])
 (.seq (.seq (.reg [⟨(some 24), .mv (.t 7), none, 327680, 0, []⟩,
   ⟨(some 25), .bin .lss (.t 24) (.k (.int .i64 0)), none, 327936, 1, []⟩])
 (.cond (.t 25)
  (.seq (.reg [⟨(some 6), .mv (.k (.bool true)), none, 393216, 0, []⟩])
  (.ret))
  (.skip)))
 (.seq (.reg [⟨(some 27), .load 2 true (.t 3), none, 458752, 0, []⟩,
   ⟨(some 28), .call 20 [(.t 27)] false, none, 459008, 1, []⟩,
   ⟨(some 29), .mv (.t 1), none, 459264, 2, []⟩,
   ⟨(some 30), .mv (.t 2), none, 459520, 3, []⟩,
   ⟨(some 31), .call 19 [(.t 28), (.t 29), (.t 30)] false, none, 459776, 4, []⟩,
   ⟨(some 26), .mv (.t 31), none, 460032, 5, []⟩,
   ⟨(some 32), .ext (.t 26) 0, none, 460288, 6, []⟩,
   ⟨(some 33), .ext (.t 26) 1, none, 460544, 7, []⟩,
   ⟨(some 8), .alloc [(.nil true 1), (.nil true 2)], none, 460800, 8, []⟩,
   ⟨none, .store 2 (.t 8) (.t 32), none, 461056, 9, []⟩,
   ⟨(some 9), .mv (.t 33), none, 461312, 10, []⟩])
 (.seq (.reg [⟨(some 34), .load 2 true (.t 3), none, 524288, 0, []⟩,
   ⟨(some 35), .call 20 [(.t 34)] false, none, 524544, 1, []⟩,
   ⟨(some 10), .alloc [(.nil true 1), (.nil true 2)], none, 524800, 2, []⟩,
   ⟨none, .store 2 (.t 10) (.t 35), none, 525056, 3, []⟩])
 (.seq (.reg [⟨(some 37), .load 2 true (.t 10), none, 589824, 0, []⟩,
   ⟨(some 38), .mv (.t 1), none, 590080, 1, []⟩,
   ⟨(some 39), .mv (.t 2), none, 590336, 2, []⟩,
   ⟨(some 40), .call 15 [(.t 37), (.t 38), (.t 39)] false, none, 590592, 3, []⟩,
   ⟨(some 36), .mv (.t 40), none, 590848, 4, []⟩,
   ⟨(some 41), .ext (.t 36) 0, none, 591104, 5, []⟩,
   ⟨(some 42), .ext (.t 36) 1, none, 591360, 6, []⟩,
   ⟨(some 11), .alloc [(.nil true 1), (.nil true 2)], none, 591616, 7, []⟩,
   ⟨none, .store 2 (.t 11) (.t 41), none, 591872, 8, []⟩,
   ⟨(some 12), .mv (.t 42), none, 592128, 9, []⟩])
 (.seq (.seq (.reg [⟨(some 43), .load 2 true (.t 11), none, 655360, 0, []⟩,
   ⟨(some 44), .load 2 true (.t 8), none, 655616, 1, []⟩,
   ⟨(some 45), .call 21 [(.t 43), (.t 44)] true, none, 655872, 2, []⟩,
   ⟨(some 46), .not (.t 45), none, 656128, 3, []⟩,
   ⟨(some 47), .mv (.t 46), none, 656384, 4, []⟩,
   ⟨(some 48), .mv (.t 12), (some (some 47, false)), 656640, 5, []⟩,
   ⟨(some 49), .mv (.t 9), (some (some 47, false)), 656896, 6, []⟩,
   ⟨(some 50), .bin .neq (.t 48) (.t 49), (some (some 47, false)), 657152, 7, []⟩,
   ⟨(some 51), .pick (.t 47) (.k (.bool true)) (.t 50), none, 657408, 8, []⟩])
 (.cond (.t 51)
  (.seq (.reg [⟨(some 6), .mv (.k (.bool false)), none, 720896, 0, []⟩])
  (.ret))
  (.skip)))
 (.seq (.seq (.reg [⟨(some 52), .load 2 true (.t 10), none, 786432, 0, []⟩,
   ⟨(some 53), .load 2 true (.t 3), none, 786688, 1, []⟩,
   ⟨(some 54), .call 20 [(.t 53)] false, none, 786944, 2, []⟩,
   ⟨(some 55), .call 21 [(.t 52), (.t 54)] true, none, 787200, 3, []⟩,
   ⟨(some 56), .not (.t 55), none, 787456, 4, []⟩])
 (.cond (.t 56)
  (.seq (.reg [⟨(some 6), .mv (.k (.bool false)), none, 851968, 0, []⟩])
  (.ret))
  (.skip)))
 (.seq (.reg [⟨(some 13), .mv (.k (.int .i64 1)), none, 917504, 0, []⟩])
 (.seq (.reg [⟨(some 57), .load 2 true (.t 10), none, 983040, 0, []⟩,
   ⟨(some 58), .mv (.t 13), none, 983296, 1, []⟩,
   ⟨(some 59), .call 22 [(.t 57), (.t 58)] true, none, 983552, 2, []⟩,
   ⟨(some 13), .mv (.t 59), none, 983808, 3, []⟩])
 (.seq (.seq (.reg [⟨(some 60), .mv (.t 13), none, 1048576, 0, []⟩,
   ⟨(some 61), .bin .lss (.t 60) (.k (.int .i64 0)), none, 1048832, 1, []⟩,
   ⟨(some 62), .mv (.t 61), none, 1049088, 2, []⟩,
   ⟨(some 63), .load 2 true (.t 11), (some (some 62, false)), 1049344, 3, []⟩,
   ⟨(some 64), .load 2 true (.t 8), (some (some 62, false)), 1049600, 4, []⟩,
   ⟨(some 65), .call 21 [(.t 63), (.t 64)] true, (some (some 62, false)), 1049856, 5, []⟩,
   ⟨(some 66), .not (.t 65), (some (some 62, false)), 1050112, 6, []⟩,
   ⟨(some 67), .pick (.t 62) (.k (.bool true)) (.t 66), none, 1050368, 7, []⟩,
   ⟨(some 68), .mv (.t 67), none, 1050624, 8, []⟩,
   ⟨(some 69), .mv (.t 12), (some (some 68, false)), 1050880, 9, []⟩,
   ⟨(some 70), .mv (.t 9), (some (some 68, false)), 1051136, 10, []⟩,
   ⟨(some 71), .bin .neq (.t 69) (.t 70), (some (some 68, false)), 1051392, 11, []⟩,
   ⟨(some 72), .pick (.t 68) (.k (.bool true)) (.t 71), none, 1051648, 12, []⟩])
 (.cond (.t 72)
  (.seq (.reg [⟨(some 6), .mv (.k (.bool false)), none, 1114112, 0, []⟩])
  (.ret))
  (.skip)))
 (.seq (.reg [⟨(some 14), .mv (.k (.int .i64 1)), none, 1179648, 0, []⟩])
 (.seq (.reg [⟨(some 73), .load 2 true (.t 11), none, 1245184, 0, []⟩,
   ⟨(some 74), .mv (.t 14), none, 1245440, 1, []⟩,
   ⟨(some 75), .call 22 [(.t 73), (.t 74)] true, none, 1245696, 2, []⟩,
   ⟨(some 14), .mv (.t 75), none, 1245952, 3, []⟩])
 (.seq (.reg [⟨(some 15), .mv (.k (.int .i64 1)), none, 1310720, 0, []⟩])
 (.seq (.reg [⟨(some 76), .load 2 true (.t 11), none, 1376256, 0, []⟩,
   ⟨(some 77), .mv (.t 15), none, 1376512, 1, []⟩,
   ⟨(some 78), .call 23 [(.t 76), (.t 77)] true, none, 1376768, 2, []⟩,
   ⟨(some 15), .mv (.t 78), none, 1377024, 3, []⟩])
 (.seq (.seq (.reg [⟨(some 79), .mv (.t 15), none, 1441792, 0, []⟩,
   ⟨(some 80), .bin .lss (.t 79) (.k (.int .i64 0)), none, 1442048, 1, []⟩])
 (.cond (.t 80)
  (.seq (.reg [⟨(some 6), .mv (.k (.bool false)), none, 1507328, 0, []⟩])
  (.ret))
  (.skip)))
 (.seq (.seq (.reg [⟨(some 81), .mv (.t 15), none, 1572864, 0, []⟩,
   ⟨(some 82), .mv (.t 14), none, 1573120, 1, []⟩,
   ⟨(some 83), .bin .neq (.t 81) (.t 82), none, 1573376, 2, []⟩])
 (.cond (.t 83)
  (.seq (.reg [⟨(some 6), .mv (.k (.bool false)), none, 1638400, 0, []⟩])
  (.ret))
  (.skip)))
 (.seq (.reg [⟨(some 85), .load 2 true (.t 3), none, 1703936, 0, []⟩,
   ⟨(some 86), .call 20 [(.t 85)] false, none, 1704192, 1, []⟩,
   ⟨(some 87), .mv (.t 1), none, 1704448, 2, []⟩,
   ⟨(some 88), .mv (.t 2), none, 1704704, 3, []⟩,
   ⟨(some 89), .call 15 [(.t 86), (.t 87), (.t 88)] false, none, 1704960, 4, []⟩,
   ⟨(some 84), .mv (.t 89), none, 1705216, 5, []⟩,
   ⟨(some 90), .ext (.t 84) 0, none, 1705472, 6, []⟩,
   ⟨(some 91), .ext (.t 84) 1, none, 1705728, 7, []⟩,
   ⟨(some 16), .alloc [(.nil true 1), (.nil true 2)], none, 1705984, 8, []⟩,
   ⟨none, .store 2 (.t 16) (.t 90), none, 1706240, 9, []⟩,
   ⟨(some 17), .mv (.t 91), none, 1706496, 10, []⟩])
 (.seq (.seq (.reg [⟨(some 92), .load 2 true (.t 16), none, 1769472, 0, []⟩,
   ⟨(some 93), .load 2 true (.t 8), none, 1769728, 1, []⟩,
   ⟨(some 94), .call 21 [(.t 92), (.t 93)] true, none, 1769984, 2, []⟩,
   ⟨(some 95), .not (.t 94), none, 1770240, 3, []⟩,
   ⟨(some 96), .mv (.t 95), none, 1770496, 4, []⟩,
   ⟨(some 97), .mv (.t 17), (some (some 96, false)), 1770752, 5, []⟩,
   ⟨(some 98), .mv (.t 9), (some (some 96, false)), 1771008, 6, []⟩,
   ⟨(some 99), .bin .neq (.t 97) (.t 98), (some (some 96, false)), 1771264, 7, []⟩,
   ⟨(some 100), .pick (.t 96) (.k (.bool true)) (.t 99), none, 1771520, 8, []⟩])
 (.cond (.t 100)
  (.seq (.reg [⟨(some 6), .mv (.k (.bool false)), none, 1835008, 0, []⟩])
  (.ret))
  (.skip)))
 (.seq (.reg [⟨(some 15), .mv (.k (.int .i64 1)), none, 1900544, 0, []⟩])
 (.seq (.reg [⟨(some 101), .load 2 true (.t 11), none, 1966080, 0, []⟩,
   ⟨(some 102), .mv (.t 15), none, 1966336, 1, []⟩,
   ⟨(some 103), .call 23 [(.t 101), (.t 102)] true, none, 1966592, 2, []⟩,
   ⟨(some 15), .mv (.t 103), none, 1966848, 3, []⟩])
 (.seq (.seq (.reg [⟨(some 104), .mv (.t 15), none, 2031616, 0, []⟩,
   ⟨(some 105), .bin .lss (.t 104) (.k (.int .i64 0)), none, 2031872, 1, []⟩])
 (.cond (.t 105)
  (.seq (.reg [⟨(some 6), .mv (.k (.bool false)), none, 2097152, 0, []⟩])
  (.ret))
  (.skip)))
 (.seq (.seq (.reg [⟨(some 106), .mv (.t 15), none, 2162688, 0, []⟩,
   ⟨(some 107), .mv (.t 14), none, 2162944, 1, []⟩,
   ⟨(some 108), .bin .neq (.t 106) (.t 107), none, 2163200, 2, []⟩])
 (.cond (.t 108)
  (.seq (.reg [⟨(some 6), .mv (.k (.bool false)), none, 2228224, 0, []⟩])
  (.ret))
  (.skip)))
 (.seq (.reg [⟨(some 6), .mv (.k (.bool true)), none, 2293760, 0, []⟩])
 (.ret))))))))))))))))))))))))))⟩
/-- loop.example/g00849/laws.FnExactRotSector -/
def F6 : F := ⟨4, 111, [.t 8],
 .seq (.reg [⟨(some 4), .box (.t 0), none, 0, 0, []⟩,
   ⟨(some 8), .mv (.k (.bool false)), none, 256, 1, []⟩])
 (.seq (.reg [⟨(some 9), .mv (.k (.int .i64 1048576)), none, 65536, 0, []⟩])
 (.seq (.reg [⟨(some 20), .load 2 true (.t 4), none, 131072, 0, []⟩,
   ⟨(some 21), .mv (.t 9), none, 131328, 1, []⟩,
   ⟨(some 22), .call 18 [(.t 20), (.t 21)] true, none, 131584, 2, []⟩,
   ⟨(some 9), .mv (.t 22), none, 131840, 3, []⟩])
 (.seq (.seq (.reg [⟨(some 23), .mv (.t 9), none, 196608, 0, []⟩,
   ⟨(some 24), .bin .lss (.t 23) (.k (.int .i64 0)), none, 196864, 1, []⟩])
 (.cond (.t 24)
  (.seq (.reg [⟨(some 8), .mv (.k (.bool true)), none, 262144, 0, []⟩])
  (.ret))
  (.skip)))
 (.seq (.reg [⟨(some 26), .load 2 true (.t 4), none, 327680, 0, []⟩,
   ⟨(some 27), .call 20 [(.t 26)] false, none, 327936, 1, []⟩,
   ⟨(some 28), .mv (.t 1), none, 328192, 2, []⟩,
   ⟨(some 29), .mv (.t 2), none, 328448, 3, []⟩,
   ⟨(some 30), .mv (.t 3), none, 328704, 4, []⟩,
   ⟨(some 31), .call 24 [(.t 27), (.t 28), (.t 29), (.t 30)] false, none, 328960, 5, []⟩,
   ⟨(some 25), .mv (.t 31), none, 329216, 6, []⟩,
   ⟨(some 32), .ext (.t 25) 0, none, 329472, 7, []⟩,
   ⟨(some 33), .ext (.t 25) 1, none, 329728, 8, []⟩,
   ⟨(some 10), .alloc [(.nil true 1), (.nil true 2)], none, 329984, 9, []⟩,
   ⟨none, .store 2 (.t 10) (.t 32), none, 330240, 10, []⟩,
   ⟨(some 11), .mv (.t 33), none, 330496, 11, []⟩])
 (.seq (.reg [⟨(some 34), .load 2 true (.t 4), none, 393216, 0, []⟩,
   ⟨(some 35), .call 20 [(.t 34)] false, none, 393472, 1, []⟩,
   ⟨(some 12), .alloc [(.nil true 1), (.nil true 2)], none, 393728, 2, []⟩,
   ⟨none, .store 2 (.t 12) (.t 35), none, 393984, 3, []⟩])
 (.seq (.reg [⟨(some 37), .load 2 true (.t 12), none, 458752, 0, []⟩,
   ⟨(some 38), .mv (.t 1), none, 459008, 1, []⟩,
   ⟨(some 39), .mv (.t 2), none, 459264, 2, []⟩,
   ⟨(some 40), .mv (.t 3), none, 459520, 3, []⟩,
   ⟨(some 41), .call 10 [(.t 37), (.t 38), (.t 39), (.t 40)] false, none, 459776, 4, []⟩,
   ⟨(some 36), .mv (.t 41), none, 460032, 5, []⟩,
   ⟨(some 42), .ext (.t 36) 0, none, 460288, 6, []⟩,
   ⟨(some 43), .ext (.t 36) 1, none, 460544, 7, []⟩,
   ⟨(some 13), .alloc [(.nil true 1), (.nil true 2)], none, 460800, 8, []⟩,
   ⟨none, .store 2 (.t 13) (.t 42), none, 461056, 9, []⟩,
   ⟨(some 14), .mv (.t 43), none, 461312, 10, []⟩])
 (.seq (.seq (.reg [⟨(some 44), .load 2 true (.t 13), none, 524288, 0, []⟩,
   ⟨(some 45), .load 2 true (.t 10), none, 524544, 1, []⟩,
   ⟨(some 46), .call 21 [(.t 44), (.t 45)] true, none, 524800, 2, []⟩,
   ⟨(some 47), .not (.t 46), none, 525056, 3, []⟩,
   ⟨(some 48), .mv (.t 47), none, 525312, 4, []⟩,
   ⟨(some 49), .mv (.t 14), (some (some 48, false)), 525568, 5, []⟩,
   ⟨(some 50), .mv (.t 11), (some (some 48, false)), 525824, 6, []⟩,
   ⟨(some 51), .bin .neq (.t 49) (.t 50), (some (some 48, false)), 526080, 7, []⟩,
   ⟨(some 52), .pick (.t 48) (.k (.bool true)) (.t 51), none, 526336, 8, []⟩])
 (.cond (.t 52)
  (.seq (.reg [⟨(some 8), .mv (.k (.bool false)), none, 589824, 0, []⟩])
  (.ret))
  (.skip)))
 (.seq (.seq (.reg [⟨(some 53), .load 2 true (.t 12), none, 655360, 0, []⟩,
   ⟨(some 54), .load 2 true (.t 4), none, 655616, 1, []⟩,
   ⟨(some 55), .call 20 [(.t 54)] false, none, 655872, 2, []⟩,
   ⟨(some 56), .call 21 [(.t 53), (.t 55)] true, none, 656128, 3, []⟩,
   ⟨(some 57), .not (.t 56), none, 656384, 4, []⟩])
 (.cond (.t 57)
  (.seq (.reg [⟨(some 8), .mv (.k (.bool false)), none, 720896, 0, []⟩])
  (.ret))
  (.skip)))
 (.seq (.reg [⟨(some 15), .mv (.k (.int .i64 1)), none, 786432, 0, []⟩])
 (.seq (.reg [⟨(some 58), .load 2 true (.t 12), none, 851968, 0, []⟩,
   ⟨(some 59), .mv (.t 15), none, 852224, 1, []⟩,
   ⟨(some 60), .call 22 [(.t 58), (.t 59)] true, none, 852480, 2, []⟩,
   ⟨(some 15), .mv (.t 60), none, 852736, 3, []⟩])
 (.seq (.seq (.reg [⟨(some 61), .mv (.t 15), none, 917504, 0, []⟩,
   ⟨(some 62), .bin .lss (.t 61) (.k (.int .i64 0)), none, 917760, 1, []⟩,
   ⟨(some 63), .mv (.t 62), none, 918016, 2, []⟩,
   ⟨(some 64), .load 2 true (.t 13), (some (some 63, false)), 918272, 3, []⟩,
   ⟨(some 65), .load 2 true (.t 10), (some (some 63, false)), 918528, 4, []⟩,
   ⟨(some 66), .call 21 [(.t 64), (.t 65)] true, (some (some 63, false)), 918784, 5, []⟩,
   ⟨(some 67), .not (.t 66), (some (some 63, false)), 919040, 6, []⟩,
   ⟨(some 68), .pick (.t 63) (.k (.bool true)) (.t 67), none, 919296, 7, []⟩,
   ⟨(some 69), .mv (.t 68), none, 919552, 8, []⟩,
   ⟨(some 70), .mv (.t 14), (some (some 69, false)), 919808, 9, []⟩,
   ⟨(some 71), .mv (.t 11), (some (some 69, false)), 920064, 10, []⟩,
   ⟨(some 72), .bin .neq (.t 70) (.t 71), (some (some 69, false)), 920320, 11, []⟩,
   ⟨(some 73), .pick (.t 69) (.k (.bool true)) (.t 72), none, 920576, 12, []⟩])
 (.cond (.t 73)
  (.seq (.reg [⟨(some 8), .mv (.k (.bool false)), none, 983040, 0, []⟩])
  (.ret))
  (.skip)))
 (.seq (.reg [⟨(some 16), .mv (.k (.int .i64 1)), none, 1048576, 0, []⟩])
 (.seq (.reg [⟨(some 74), .load 2 true (.t 13), none, 1114112, 0, []⟩,
   ⟨(some 75), .mv (.t 16), none, 1114368, 1, []⟩,
   ⟨(some 76), .call 22 [(.t 74), (.t 75)] true, none, 1114624, 2, []⟩,
   ⟨(some 16), .mv (.t 76), none, 1114880, 3, []⟩])
 (.seq (.reg [⟨(some 17), .mv (.k (.int .i64 1)), none, 1179648, 0, []⟩])
 (.seq (.reg [⟨(some 77), .load 2 true (.t 13), none, 1245184, 0, []⟩,
   ⟨(some 78), .mv (.t 17), none, 1245440, 1, []⟩,
   ⟨(some 79), .call 23 [(.t 77), (.t 78)] true, none, 1245696, 2, []⟩,
   ⟨(some 17), .mv (.t 79), none, 1245952, 3, []⟩])
 (.seq (.seq (.reg [⟨(some 80), .mv (.t 17), none, 1310720, 0, []⟩,
   ⟨(some 81), .bin .lss (.t 80) (.k (.int .i64 0)), none, 1310976, 1, []⟩])
 (.cond (.t 81)
  (.seq (.reg [⟨(some 8), .mv (.k (.bool false)), none, 1376256, 0, []⟩])
  (.ret))
  (.skip)))
 (.seq (.seq (.reg [⟨(some 82), .mv (.t 17), none, 1441792, 0, []⟩,
   ⟨(some 83), .mv (.t 16), none, 1442048, 1, []⟩,
   ⟨(some 84), .bin .neq (.t 82) (.t 83), none, 1442304, 2, []⟩])
 (.cond (.t 84)
  (.seq (.reg [⟨(some 8), .mv (.k (.bool false)), none, 1507328, 0, []⟩])
  (.ret))
  (.skip)))
 (.seq (.reg [⟨(some 86), .load 2 true (.t 4), none, 1572864, 0, []⟩,
   ⟨(some 87), .call 20 [(.t 86)] false, none, 1573120, 1, []⟩,
   ⟨(some 88), .mv (.t 1), none, 1573376, 2, []⟩,
   ⟨(some 89), .mv (.t 2), none, 1573632, 3, []⟩,
   ⟨(some 90), .mv (.t 3), none, 1573888, 4, []⟩,
   ⟨(some 91), .call 10 [(.t 87), (.t 88), (.t 89), (.t 90)] false, none, 1574144, 5, []⟩,
   ⟨(some 85), .mv (.t 91), none, 1574400, 6, []⟩,
   ⟨(some 92), .ext (.t 85) 0, none, 1574656, 7, []⟩,
   ⟨(some 93), .ext (.t 85) 1, none, 1574912, 8, []⟩,
   ⟨(some 18), .alloc [(.nil true 1), (.nil true 2)], none, 1575168, 9, []⟩,
   ⟨none, .store 2 (.t 18) (.t 92), none, 1575424, 10, []⟩,
   ⟨(some 19), .mv (.t 93), none, 1575680, 11, []⟩])
 (.seq (.seq (.reg [⟨(some 94), .load 2 true (.t 18), none, 1638400, 0, []⟩,
   ⟨(some 95), .load 2 true (.t 10), none, 1638656, 1, []⟩,
   ⟨(some 96), .call 21 [(.t 94), (.t 95)] true, none, 1638912, 2, []⟩,
   ⟨(some 97), .not (.t 96), none, 1639168, 3, []⟩,
   ⟨(some 98), .mv (.t 97), none, 1639424, 4, []⟩,
   ⟨(some 99), .mv (.t 19), (some (some 98, false)), 1639680, 5, []⟩,
   ⟨(some 100), .mv (.t 11), (some (some 98, false)), 1639936, 6, []⟩,
   ⟨(some 101), .bin .neq (.t 99) (.t 100), (some (some 98, false)), 1640192, 7, []⟩,
   ⟨(some 102), .pick (.t 98) (.k (.bool true)) (.t 101), none, 1640448, 8, []⟩])
 (.cond (.t 102)
  (.seq (.reg [⟨(some 8), .mv (.k (.bool false)), none, 1703936, 0, []⟩])
  (.ret))
  (.skip)))
 (.seq (.reg [⟨(some 17), .mv (.k (.int .i64 1)), none, 1769472, 0, []⟩])
 (.seq (.reg [⟨(some 103), .load 2 true (.t 13), none, 1835008, 0, []⟩,
   ⟨(some 104), .mv (.t 17), none, 1835264, 1, []⟩,
   ⟨(some 105), .call 23 [(.t 103), (.t 104)] true, none, 1835520, 2, []⟩,
   ⟨(some 17), .mv (.t 105), none, 1835776, 3, []⟩])
 (.seq (.seq (.reg [⟨(some 106), .mv (.t 17), none, 1900544, 0, []⟩,
   ⟨(some 107), .bin .lss (.t 106) (.k (.int .i64 0)), none, 1900800, 1, []⟩])
 (.cond (.t 107)
  (.seq (.reg [⟨(some 8), .mv (.k (.bool false)), none, 1966080, 0, []⟩])
  (.ret))
  (.skip)))
 (.seq (.seq (.reg [⟨(some 108), .mv (.t 17), none, 2031616, 0, []⟩,
   ⟨(some 109), .mv (.t 16), none, 2031872, 1, []⟩,
   ⟨(some 110), .bin .neq (.t 108) (.t 109), none, 2032128, 2, []⟩])
 (.cond (.t 110)
  (.seq (.reg [⟨(some 8), .mv (.k (.bool false)), none, 2097152, 0, []⟩])
  (.ret))
  (.skip)))
 (.seq (.reg [⟨(some 8), .mv (.k (.bool true)), none, 2162688, 0, []⟩])
 (.ret)))))))))))))))))))))))))⟩
/-- loop.example/g00849/laws.FnExactWriteAll -/
def F7 : F := ⟨3, 124, [.t 6],
 .seq (.reg [⟨(some 3), .box (.t 0), none, 0, 0, []⟩,
   ⟨(some 6), .mv (.k (.bool false)), none, 256, 1, []⟩])
 (.seq (.reg [⟨(some 7), .mv (.k (.int .i64 1048576)), none, 65536, 0, []⟩])
 (.seq (.reg [⟨(some 19), .load 2 true (.t 3), none, 131072, 0, []⟩,
   ⟨(some 20), .mv (.t 7), none, 131328, 1, []⟩,
   ⟨(some 21), .call 18 [(.t 19), (.t 20)] true, none, 131584, 2, []⟩,
   ⟨(some 7), .mv (.t 21), none, 131840, 3, []⟩])
 (.seq (.seq (.reg [⟨(some 22), .mv (.t 7), none, 196608, 0, []⟩,
   ⟨(some 23), .bin .lss (.t 22) (.k (.int .i64 0)), none, 196864, 1, []⟩])
 (.cond (.t 23)
  (.seq (.reg [⟨(some 6), .mv (.k (.bool true)), none, 262144, 0, []⟩])
  (.ret))
  (.skip)))
 (.seq (.reg [⟨(some 24), .mv (.t 2), none, 327680, 0, []⟩,
   ⟨(some 25), .mv (.t 7), none, 327936, 1, []⟩,
   ⟨(some 26), .call 25 [(.t 24), (.t 25)] true, none, 328192, 2, []⟩,
   ⟨(some 7), .mv (.t 26), none, 328448, 3, []⟩])
 (.seq (.seq (.reg [⟨(some 27), .mv (.t 7), none, 393216, 0, []⟩,
   ⟨(some 28), .bin .lss (.t 27) (.k (.int .i64 0)), none, 393472, 1, []⟩])
 (.cond (.t 28)
  (.seq (.reg [⟨(some 6), .mv (.k (.bool true)), none, 458752, 0, []⟩])
  (.ret))
  (.skip)))
 (.seq (.reg [⟨(some 30), .load 2 true (.t 3), none, 524288, 0, []⟩,
   ⟨(some 31), .call 20 [(.t 30)] false, none, 524544, 1, []⟩,
   ⟨(some 32), .mv (.t 1), none, 524800, 2, []⟩,
   ⟨(some 33), .mv (.t 2), none, 525056, 3, []⟩,
   ⟨(some 34), .call 27 [(.t 33)] false, none, 525312, 4, []⟩,
   ⟨(some 35), .call 26 [(.t 31), (.t 32), (.t 34)] false, none, 525568, 5, []⟩,
   ⟨(some 29), .mv (.t 35), none, 525824, 6, []⟩,
   ⟨(some 36), .ext (.t 29) 0, none, 526080, 7, []⟩,
   ⟨(some 37), .ext (.t 29) 1, none, 526336, 8, []⟩,
   ⟨(some 8), .alloc [(.nil true 1), (.nil true 2)], none, 526592, 9, []⟩,
   ⟨none, .store 2 (.t 8) (.t 36), none, 526848, 10, []⟩,
   ⟨(some 9), .mv (.t 37), none, 527104, 11, []⟩])
 (.seq (.reg [⟨(some 38), .load 2 true (.t 3), none, 589824, 0, []⟩,
   ⟨(some 39), .call 20 [(.t 38)] false, none, 590080, 1, []⟩,
   ⟨(some 10), .alloc [(.nil true 1), (.nil true 2)], none, 590336, 2, []⟩,
   ⟨none, .store 2 (.t 10) (.t 39), none, 590592, 3, []⟩])
 (.seq (.reg [⟨(some 40), .mv (.t 2), none, 655360, 0, []⟩,
   ⟨(some 41), .call 27 [(.t 40)] false, none, 655616, 1, []⟩,
   ⟨(some 11), .mv (.t 41), none, 655872, 2, []⟩])
 (.seq (.reg [⟨(some 43), .load 2 true (.t 10), none, 720896, 0, []⟩,
   ⟨(some 44), .mv (.t 1), none, 721152, 1, []⟩,
   ⟨(some 45), .mv (.t 11), none, 721408, 2, []⟩,
   ⟨(some 46), .call 28 [(.t 43), (.t 44), (.t 45)] false, none, 721664, 3, []⟩,
   ⟨(some 42), .mv (.t 46), none, 721920, 4, []⟩,
   ⟨(some 47), .ext (.t 42) 0, none, 722176, 5, []⟩,
   ⟨(some 48), .ext (.t 42) 1, none, 722432, 6, []⟩,
   ⟨(some 12), .alloc [(.nil true 1), (.nil true 2)], none, 722688, 7, []⟩,
   ⟨none, .store 2 (.t 12) (.t 47), none, 722944, 8, []⟩,
   ⟨(some 13), .mv (.t 48), none, 723200, 9, []⟩])
 (.seq (.seq (.reg [⟨(some 49), .load 2 true (.t 12), none, 786432, 0, []⟩,
   ⟨(some 50), .load 2 true (.t 8), none, 786688, 1, []⟩,
   ⟨(some 51), .call 21 [(.t 49), (.t 50)] true, none, 786944, 2, []⟩,
   ⟨(some 52), .not (.t 51), none, 787200, 3, []⟩,
   ⟨(some 53), .mv (.t 52), none, 787456, 4, []⟩,
   ⟨(some 54), .mv (.t 13), (some (some 53, false)), 787712, 5, []⟩,
   ⟨(some 55), .mv (.t 9), (some (some 53, false)), 787968, 6, []⟩,
   ⟨(some 56), .bin .neq (.t 54) (.t 55), (some (some 53, false)), 788224, 7, []⟩,
   ⟨(some 57), .pick (.t 53) (.k (.bool true)) (.t 56), none, 788480, 8, []⟩])
 (.cond (.t 57)
  (.seq (.reg [⟨(some 6), .mv (.k (.bool false)), none, 851968, 0, []⟩])
  (.ret))
  (.skip)))
 (.seq (.seq (.reg [⟨(some 58), .load 2 true (.t 10), none, 917504, 0, []⟩,
   ⟨(some 59), .load 2 true (.t 3), none, 917760, 1, []⟩,
   ⟨(some 60), .call 20 [(.t 59)] false, none, 918016, 2, []⟩,
   ⟨(some 61), .call 21 [(.t 58), (.t 60)] true, none, 918272, 3, []⟩,
   ⟨(some 62), .not (.t 61), none, 918528, 4, []⟩])
 (.cond (.t 62)
  (.seq (.reg [⟨(some 6), .mv (.k (.bool false)), none, 983040, 0, []⟩])
  (.ret))
  (.skip)))
 (.seq (.seq (.reg [⟨(some 63), .mv (.t 11), none, 1048576, 0, []⟩,
   ⟨(some 64), .mv (.t 2), none, 1048832, 1, []⟩,
   ⟨(some 65), .call 27 [(.t 64)] false, none, 1049088, 2, []⟩,
   ⟨(some 66), .call 29 [(.t 63), (.t 65)] true, none, 1049344, 3, []⟩,
   ⟨(some 67), .not (.t 66), none, 1049600, 4, []⟩])
 (.cond (.t 67)
  (.seq (.reg [⟨(some 6), .mv (.k (.bool false)), none, 1114112, 0, []⟩])
  (.ret))
  (.skip)))
 (.seq (.reg [⟨(some 14), .mv (.k (.int .i64 1)), none, 1179648, 0, []⟩])
 (.seq (.reg [⟨(some 68), .load 2 true (.t 10), none, 1245184, 0, []⟩,
   ⟨(some 69), .mv (.t 14), none, 1245440, 1, []⟩,
   ⟨(some 70), .call 22 [(.t 68), (.t 69)] true, none, 1245696, 2, []⟩,
   ⟨(some 14), .mv (.t 70), none, 1245952, 3, []⟩])
 (.seq (.reg [⟨(some 71), .mv (.t 11), none, 1310720, 0, []⟩,
   ⟨(some 72), .mv (.t 14), none, 1310976, 1, []⟩,
   ⟨(some 73), .call 30 [(.t 71), (.t 72)] true, none, 1311232, 2, []⟩,
   ⟨(some 14), .mv (.t 73), none, 1311488, 3, []⟩])
 (.seq (.seq (.reg [⟨(some 74), .mv (.t 14), none, 1376256, 0, []⟩,
   ⟨(some 75), .bin .lss (.t 74) (.k (.int .i64 0)), none, 1376512, 1, []⟩,
   ⟨(some 76), .mv (.t 75), none, 1376768, 2, []⟩,
   ⟨(some 77), .load 2 true (.t 12), (some (some 76, false)), 1377024, 3, []⟩,
   ⟨(some 78), .load 2 true (.t 8), (some (some 76, false)), 1377280, 4, []⟩,
   ⟨(some 79), .call 21 [(.t 77), (.t 78)] true, (some (some 76, false)), 1377536, 5, []⟩,
   ⟨(some 80), .not (.t 79), (some (some 76, false)), 1377792, 6, []⟩,
   ⟨(some 81), .pick (.t 76) (.k (.bool true)) (.t 80), none, 1378048, 7, []⟩,
   ⟨(some 82), .mv (.t 81), none, 1378304, 8, []⟩,
   ⟨(some 83), .mv (.t 13), (some (some 82, false)), 1378560, 9, []⟩,
   ⟨(some 84), .mv (.t 9), (some (some 82, false)), 1378816, 10, []⟩,
   ⟨(some 85), .bin .neq (.t 83) (.t 84), (some (some 82, false)), 1379072, 11, []⟩,
   ⟨(some 86), .pick (.t 82) (.k (.bool true)) (.t 85), none, 1379328, 12, []⟩])
 (.cond (.t 86)
  (.seq (.reg [⟨(some 6), .mv (.k (.bool false)), none, 1441792, 0, []⟩])
  (.ret))
  (.skip)))
 (.seq (.reg [⟨(some 15), .mv (.k (.int .i64 1)), none, 1507328, 0, []⟩])
 (.seq (.reg [⟨(some 87), .load 2 true (.t 12), none, 1572864, 0, []⟩,
   ⟨(some 88), .mv (.t 15), none, 1573120, 1, []⟩,
   ⟨(some 89), .call 22 [(.t 87), (.t 88)] true, none, 1573376, 2, []⟩,
   ⟨(some 15), .mv (.t 89), none, 1573632, 3, []⟩])
 (.seq (.reg [⟨(some 16), .mv (.k (.int .i64 1)), none, 1638400, 0, []⟩])
 (.seq (.reg [⟨(some 90), .load 2 true (.t 12), none, 1703936, 0, []⟩,
   ⟨(some 91), .mv (.t 16), none, 1704192, 1, []⟩,
   ⟨(some 92), .call 23 [(.t 90), (.t 91)] true, none, 1704448, 2, []⟩,
   ⟨(some 16), .mv (.t 92), none, 1704704, 3, []⟩])
 (.seq (.seq (.reg [⟨(some 93), .mv (.t 16), none, 1769472, 0, []⟩,
   ⟨(some 94), .bin .lss (.t 93) (.k (.int .i64 0)), none, 1769728, 1, []⟩])
 (.cond (.t 94)
  (.seq (.reg [⟨(some 6), .mv (.k (.bool false)), none, 1835008, 0, []⟩])
  (.ret))
  (.skip)))
 (.seq (.seq (.reg [⟨(some 95), .mv (.t 16), none, 1900544, 0, []⟩,
   ⟨(some 96), .mv (.t 15), none, 1900800, 1, []⟩,
   ⟨(some 97), .bin .neq (.t 95) (.t 96), none, 1901056, 2, []⟩])
 (.cond (.t 97)
  (.seq (.reg [⟨(some 6), .mv (.k (.bool false)), none, 1966080, 0, []⟩])
  (.ret))
  (.skip)))
 (.seq (.reg [⟨(some 99), .load 2 true (.t 3), none, 2031616, 0, []⟩,
   ⟨(some 100), .call 20 [(.t 99)] false, none, 2031872, 1, []⟩,
   ⟨(some 101), .mv (.t 1), none, 2032128, 2, []⟩,
   ⟨(some 102), .mv (.t 2), none, 2032384, 3, []⟩,
   ⟨(some 103), .call 27 [(.t 102)] false, none, 2032640, 4, []⟩,
   ⟨(some 104), .call 28 [(.t 100), (.t 101), (.t 103)] false, none, 2032896, 5, []⟩,
   ⟨(some 98), .mv (.t 104), none, 2033152, 6, []⟩,
   ⟨(some 105), .ext (.t 98) 0, none, 2033408, 7, []⟩,
   ⟨(some 106), .ext (.t 98) 1, none, 2033664, 8, []⟩,
   ⟨(some 17), .alloc [(.nil true 1), (.nil true 2)], none, 2033920, 9, []⟩,
   ⟨none, .store 2 (.t 17) (.t 105), none, 2034176, 10, []⟩,
   ⟨(some 18), .mv (.t 106), none, 2034432, 11, []⟩])
 (.seq (.seq (.reg [⟨(some 107), .load 2 true (.t 17), none, 2097152, 0, []⟩,
   ⟨(some 108), .load 2 true (.t 8), none, 2097408, 1, []⟩,
   ⟨(some 109), .call 21 [(.t 107), (.t 108)] true, none, 2097664, 2, []⟩,
   ⟨(some 110), .not (.t 109), none, 2097920, 3, []⟩,
   ⟨(some 111), .mv (.t 110), none, 2098176, 4, []⟩,
   ⟨(some 112), .mv (.t 18), (some (some 111, false)), 2098432, 5, []⟩,
   ⟨(some 113), .mv (.t 9), (some (some 111, false)), 2098688, 6, []⟩,
   ⟨(some 114), .bin .neq (.t 112) (.t 113), (some (some 111, false)), 2098944, 7, []⟩,
   ⟨(some 115), .pick (.t 111) (.k (.bool true)) (.t 114), none, 2099200, 8, []⟩])
 (.cond (.t 115)
  (.seq (.reg [⟨(some 6), .mv (.k (.bool false)), none, 2162688, 0, []⟩])
  (.ret))
  (.skip)))
 (.seq (.reg [⟨(some 16), .mv (.k (.int .i64 1)), none, 2228224, 0, []⟩])
 (.seq (.reg [⟨(some 116), .load 2 true (.t 12), none, 2293760, 0, []⟩,
   ⟨(some 117), .mv (.t 16), none, 2294016, 1, []⟩,
   ⟨(some 118), .call 23 [(.t 116), (.t 117)] true, none, 2294272, 2, []⟩,
   ⟨(some 16), .mv (.t 118), none, 2294528, 3, []⟩])
 (.seq (.seq (.reg [⟨(some 119), .mv (.t 16), none, 2359296, 0, []⟩,
   ⟨(some 120), .bin .lss (.t 119) (.k (.int .i64 0)), none, 2359552, 1, []⟩])
 (.cond (.t 120)
  (.seq (.reg [⟨(some 6), .mv (.k (.bool false)), none, 2424832, 0, []⟩])
  (.ret))
  (.skip)))
 (.seq (.seq (.reg [⟨(some 121), .mv (.t 16), none, 2490368, 0, []⟩,
   ⟨(some 122), .mv (.t 15), none, 2490624, 1, []⟩,
   ⟨(some 123), .bin .neq (.t 121) (.t 122), none, 2490880, 2, []⟩])
 (.cond (.t 123)
  (.seq (.reg [⟨(some 6), .mv (.k (.bool false)), none, 2555904, 0, []⟩])
  (.ret))
  (.skip)))
 (.seq (.reg [⟨(some 6), .mv (.k (.bool true)), none, 2621440, 0, []⟩])
 (.ret))))))))))))))))))))))))))))))⟩
/-- loop.example/g00849/impl.RotSector -/
def F10 : F := ⟨4, 28, [.cell 8 2 true, .t 9],
 .seq (.reg [⟨(some 4), .box (.t 0), none, 0, 0, []⟩,
   ⟨(some 8), .alloc [(.nil true 1), (.nil true 2)], none, 256, 1, []⟩,
   ⟨(some 9), .mv (.k (.int .i64 0)), none, 512, 2, []⟩])
 (.seq (.block 0 (.seq (.reg [⟨(some 11), .load 2 true (.t 4), none, 65536, 0, []⟩,
   ⟨(some 12), .call 34 [(.t 11)] true, none, 65792, 1, []⟩,
   ⟨(some 13), .not (.t 12), none, 66048, 2, []⟩,
   ⟨(some 10), .mv (.t 13), none, 66304, 3, []⟩])
 (.cond (.t 10)
  (.seq (.reg [⟨(some 14), .build [(.nil true 1), (.nil true 2)] [], none, 131072, 0, []⟩,
    ⟨none, .store 2 (.t 8) (.t 14), none, 131328, 1, []⟩,
    ⟨(some 9), .mv (.k (.int .i64 1)), none, 131584, 2, []⟩])
  (.ret))
  (.seq (.reg [⟨(some 16), .load 2 true (.t 4), none, 196608, 0, []⟩,
    ⟨(some 17), .mv (.t 1), none, 196864, 1, []⟩,
    ⟨(some 18), .mv (.t 2), none, 197120, 2, []⟩,
    ⟨(some 19), .mv (.t 3), none, 197376, 3, []⟩,
    ⟨(some 20), .call 35 [(.t 16), (.t 17), (.t 18), (.t 19)] true, none, 197632, 4, []⟩,
    ⟨(some 21), .not (.t 20), none, 197888, 5, []⟩,
    ⟨(some 15), .mv (.t 21), none, 198144, 6, []⟩])
  (.cond (.t 15)
   (.seq (.reg [⟨(some 22), .build [(.nil true 1), (.nil true 2)] [], none, 262144, 0, []⟩,
     ⟨none, .store 2 (.t 8) (.t 22), none, 262400, 1, []⟩,
     ⟨(some 9), .mv (.k (.int .i64 2)), none, 262656, 2, []⟩])
   (.ret))
   (.skip))))))
 (.seq (.reg [⟨(some 23), .load 2 true (.t 4), none, 327680, 0, []⟩,
   ⟨(some 24), .mv (.t 1), none, 327936, 1, []⟩,
   ⟨(some 25), .mv (.t 2), none, 328192, 2, []⟩,
   ⟨(some 26), .mv (.t 3), none, 328448, 3, []⟩,
   ⟨(some 27), .call 36 [(.t 23), (.t 24), (.t 25), (.t 26)] false, none, 328704, 4, []⟩,
   ⟨none, .store 2 (.t 8) (.t 27), none, 328960, 5, []⟩,
   ⟨(some 9), .mv (.k (.int .i64 0)), none, 329216, 6, []⟩])
 (.ret)))⟩
/-- loop.example/g00849/spec.DiskOk -/
def F13 : F := ⟨1, 62, [.t 2],
 .seq (.reg [⟨(some 1), .box (.t 0), none, 0, 0, []⟩,
   ⟨(some 2), .mv (.k (.bool false)), none, 256, 1, []⟩])
 (.seq (.reg [⟨(some 6), .faddr 0 (.t 1), none, 65536, 0, []⟩,
   ⟨(some 7), .load 1 false (.t 6), none, 65792, 1, []⟩,
   ⟨(some 8), .len false (.t 7), none, 66048, 2, []⟩,
   ⟨(some 3), .mv (.t 8), none, 66304, 3, []⟩])
 (.seq (.seq (.reg [⟨(some 9), .mv (.t 3), none, 131072, 0, []⟩,
   ⟨(some 10), .bin .lss (.t 9) (.k (.int .i64 1)), none, 131328, 1, []⟩,
   ⟨(some 11), .mv (.t 10), none, 131584, 2, []⟩,
   ⟨(some 12), .mv (.t 3), (some (some 11, false)), 131840, 3, []⟩,
   ⟨(some 13), .bin .gtr (.t 12) (.k (.int .i64 1200)), (some (some 11, false)), 132096, 4, []⟩,
   ⟨(some 14), .pick (.t 11) (.k (.bool true)) (.t 13), none, 132352, 5, []⟩,
   ⟨(some 15), .mv (.t 14), none, 132608, 6, []⟩,
   ⟨(some 16), .faddr 1 (.t 1), (some (some 15, false)), 132864, 7, []⟩,
   ⟨(some 17), .load 1 false (.t 16), (some (some 15, false)), 133120, 8, []⟩,
   ⟨(some 18), .len false (.t 17), (some (some 15, false)), 133376, 9, []⟩,
   ⟨(some 19), .bin .gtr (.t 18) (.k (.int .i64 600)), (some (some 15, false)), 133632, 10, []⟩,
   ⟨(some 20), .pick (.t 15) (.k (.bool true)) (.t 19), none, 133888, 11, []⟩])
 (.cond (.t 20)
  (.seq (.reg [⟨(some 2), .mv (.k (.bool false)), none, 196608, 0, []⟩])
  (.ret))
  (.skip)))
 (.seq (.seq (.reg [⟨(some 4), .mv (.k (.int .i64 0)), none, 262144, 0, []⟩])
 (.block 0 (.loop [1, 3, 4] [0, 1, 2, 3, 4, 5]
  (.seq (.seq (.reg [⟨(some 21), .mv (.t 4), none, 327680, 0, []⟩,
    ⟨(some 22), .faddr 0 (.t 1), none, 327936, 1, []⟩,
    ⟨(some 23), .load 1 false (.t 22), none, 328192, 2, []⟩,
    ⟨(some 24), .len false (.t 23), none, 328448, 3, []⟩,
    ⟨(some 25), .bin .lss (.t 21) (.t 24), none, 328704, 4, []⟩])
  (.cond (.t 25)
   (.skip)
   (.exit 0)))
  (.seq (.block 1 (.seq (.reg [⟨(some 28), .faddr 0 (.t 1), none, 458752, 0, []⟩,
    ⟨(some 29), .load 1 false (.t 28), none, 459008, 1, []⟩,
    ⟨(some 30), .mv (.t 4), none, 459264, 2, []⟩,
    ⟨(some 31), .iaddr 1 (.t 29) (.t 30), none, 459520, 3, []⟩,
    ⟨(some 32), .load 1 false (.t 31), none, 459776, 4, []⟩,
    ⟨(some 33), .len true (.t 32), none, 460032, 5, []⟩,
    ⟨(some 34), .bin .neq (.t 33) (.k (.int .i64 64)), none, 460288, 6, []⟩])
  (.cond (.t 34)
   (.seq (.reg [⟨(some 2), .mv (.k (.bool false)), none, 524288, 0, []⟩])
   (.ret))
   (.skip))))
  (.reg [⟨(some 26), .mv (.t 4), none, 393216, 0, []⟩,
    ⟨(some 27), .bin .add (.t 26) (.k (.int .i64 1)), none, 393472, 1, []⟩,
    ⟨(some 4), .mv (.t 27), none, 393728, 2, []⟩]))))))
 (.seq (.seq (.reg [⟨(some 5), .mv (.k (.int .i64 0)), none, 589824, 0, []⟩])
 (.block 2 (.loop [1, 3, 5] [0, 1, 2, 3, 4, 5]
  (.seq (.seq (.reg [⟨(some 35), .mv (.t 5), none, 655360, 0, []⟩,
    ⟨(some 36), .faddr 1 (.t 1), none, 655616, 1, []⟩,
    ⟨(some 37), .load 1 false (.t 36), none, 655872, 2, []⟩,
    ⟨(some 38), .len false (.t 37), none, 656128, 3, []⟩,
    ⟨(some 39), .bin .lss (.t 35) (.t 38), none, 656384, 4, []⟩])
  (.cond (.t 39)
   (.skip)
   (.exit 2)))
  (.seq (.block 3 (.seq (.reg [⟨(some 42), .faddr 1 (.t 1), none, 786432, 0, []⟩,
    ⟨(some 43), .load 1 false (.t 42), none, 786688, 1, []⟩,
    ⟨(some 44), .mv (.t 5), none, 786944, 2, []⟩,
    ⟨(some 45), .iaddr 2 (.t 43) (.t 44), none, 787200, 3, []⟩,
    ⟨(some 46), .faddr 0 (.t 45), none, 787456, 4, []⟩,
    ⟨(some 47), .load 1 false (.t 46), none, 787712, 5, []⟩,
    ⟨(some 48), .mv (.t 3), none, 787968, 6, []⟩,
    ⟨(some 49), .bin .sub (.t 48) (.k (.int .i64 1)), none, 788224, 7, []⟩,
    ⟨(some 50), .call 39 [(.t 47), (.k (.int .i64 0)), (.t 49)] true, none, 788480, 8, []⟩,
    ⟨(some 51), .not (.t 50), none, 788736, 9, []⟩,
    ⟨(some 52), .mv (.t 51), none, 788992, 10, []⟩,
    ⟨(some 53), .faddr 1 (.t 1), (some (some 52, false)), 789248, 11, []⟩,
    ⟨(some 54), .load 1 false (.t 53), (some (some 52, false)), 789504, 12, []⟩,
    ⟨(some 55), .mv (.t 5), (some (some 52, false)), 789760, 13, []⟩,
    ⟨(some 56), .iaddr 2 (.t 54) (.t 55), (some (some 52, false)), 790016, 14, []⟩,
    ⟨(some 57), .faddr 1 (.t 56), (some (some 52, false)), 790272, 15, []⟩,
    ⟨(some 58), .load 1 false (.t 57), (some (some 52, false)), 790528, 16, []⟩,
    ⟨(some 59), .len true (.t 58), (some (some 52, false)), 790784, 17, []⟩,
    ⟨(some 60), .bin .neq (.t 59) (.k (.int .i64 64)), (some (some 52, false)), 791040, 18, []⟩,
    ⟨(some 61), .pick (.t 52) (.k (.bool true)) (.t 60), none, 791296, 19, []⟩])
  (.cond (.t 61)
   (.seq (.reg [⟨(some 2), .mv (.k (.bool false)), none, 851968, 0, []⟩])
   (.ret))
   (.skip))))
  (.reg [⟨(some 40), .mv (.t 5), none, 720896, 0, []⟩,
    ⟨(some 41), .bin .add (.t 40) (.k (.int .i64 1)), none, 721152, 1, []⟩,
    ⟨(some 5), .mv (.t 41), none, 721408, 2, []⟩]))))))
 (.seq (.reg [⟨(some 2), .mv (.k (.bool true)), none, 917504, 0, []⟩])
 (.ret))))))⟩
/-- loop.example/g00849/impl.WriteSector -/
def F15 : F := ⟨3, 37, [.cell 6 2 true, .t 7],
 .seq (.reg [⟨(some 3), .box (.t 0), none, 0, 0, []⟩,
   ⟨(some 6), .alloc [(.nil true 1), (.nil true 2)], none, 256, 1, []⟩,
   ⟨(some 7), .mv (.k (.int .i64 0)), none, 512, 2, []⟩])
 (.seq (.block 0 (.seq (.reg [⟨(some 9), .load 2 true (.t 3), none, 65536, 0, []⟩,
   ⟨(some 10), .call 34 [(.t 9)] true, none, 65792, 1, []⟩,
   ⟨(some 11), .not (.t 10), none, 66048, 2, []⟩,
   ⟨(some 12), .mv (.t 11), none, 66304, 3, []⟩,
   ⟨(some 13), .mv (.t 2), (some (some 12, false)), 66560, 4, []⟩,
   ⟨(some 14), .call 41 [(.t 13)] true, (some (some 12, false)), 66816, 5, []⟩,
   ⟨(some 15), .not (.t 14), (some (some 12, false)), 67072, 6, []⟩,
   ⟨(some 16), .pick (.t 12) (.k (.bool true)) (.t 15), none, 67328, 7, []⟩,
   ⟨(some 8), .mv (.t 16), none, 67584, 8, []⟩])
 (.cond (.t 8)
  (.seq (.reg [⟨(some 17), .build [(.nil true 1), (.nil true 2)] [], none, 131072, 0, []⟩,
    ⟨none, .store 2 (.t 6) (.t 17), none, 131328, 1, []⟩,
    ⟨(some 7), .mv (.k (.int .i64 1)), none, 131584, 2, []⟩])
  (.ret))
  (.seq (.reg [⟨(some 19), .mv (.t 1), none, 196608, 0, []⟩,
    ⟨(some 20), .faddr 0 (.t 3), none, 196864, 1, []⟩,
    ⟨(some 21), .load 1 false (.t 20), none, 197120, 2, []⟩,
    ⟨(some 22), .len false (.t 21), none, 197376, 3, []⟩,
    ⟨(some 23), .call 42 [(.t 19), (.t 22)] true, none, 197632, 4, []⟩,
    ⟨(some 24), .not (.t 23), none, 197888, 5, []⟩,
    ⟨(some 18), .mv (.t 24), none, 198144, 6, []⟩])
  (.cond (.t 18)
   (.seq (.reg [⟨(some 25), .build [(.nil true 1), (.nil true 2)] [], none, 262144, 0, []⟩,
     ⟨none, .store 2 (.t 6) (.t 25), none, 262400, 1, []⟩,
     ⟨(some 7), .mv (.k (.int .i64 2)), none, 262656, 2, []⟩])
   (.ret))
   (.seq (.reg [⟨(some 27), .faddr 1 (.t 3), none, 327680, 0, []⟩,
     ⟨(some 28), .load 1 false (.t 27), none, 327936, 1, []⟩,
     ⟨(some 29), .len false (.t 28), none, 328192, 2, []⟩,
     ⟨(some 30), .bin .geq (.t 29) (.k (.int .i64 600)), none, 328448, 3, []⟩,
     ⟨(some 26), .mv (.t 30), none, 328704, 4, []⟩])
   (.cond (.t 26)
    (.seq (.reg [⟨(some 31), .build [(.nil true 1), (.nil true 2)] [], none, 393216, 0, []⟩,
      ⟨none, .store 2 (.t 6) (.t 31), none, 393472, 1, []⟩,
      ⟨(some 7), .mv (.k (.int .i64 4)), none, 393728, 2, []⟩])
    (.ret))
    (.skip))))))))
 (.seq (.reg [⟨(some 32), .load 2 true (.t 3), none, 458752, 0, []⟩,
   ⟨(some 33), .mv (.t 1), none, 459008, 1, []⟩,
   ⟨(some 34), .mv (.t 2), none, 459264, 2, []⟩,
   ⟨(some 35), .bslice true 1 [(.str ByteArray.empty)] 1 [(0, (.t 34))], none, 459520, 3, []⟩,
   ⟨(some 36), .call 43 [(.t 32), (.t 33), (.t 35)] false, none, 459776, 4, []⟩,
   ⟨none, .store 2 (.t 6) (.t 36), none, 460032, 5, []⟩,
   ⟨(some 7), .mv (.k (.int .i64 0)), none, 460288, 6, []⟩])
 (.ret)))⟩
/-- loop.example/g00849/laws.szDisk -/
def F18 : F := ⟨2, 18, [.t 4],
 .seq (.reg [⟨(some 2), .box (.t 0), none, 0, 0, []⟩,
   ⟨(some 4), .mv (.k (.int .i64 0)), none, 256, 1, []⟩])
 (.seq (.reg [⟨(some 5), .faddr 0 (.t 2), none, 65536, 0, []⟩,
   ⟨(some 6), .load 1 false (.t 5), none, 65792, 1, []⟩,
   ⟨(some 7), .mv (.t 1), none, 66048, 2, []⟩,
   ⟨(some 8), .call 25 [(.t 6), (.t 7)] true, none, 66304, 3, []⟩,
   ⟨(some 1), .mv (.t 8), none, 66560, 4, []⟩])
 (.seq (.seq (.reg [⟨(some 9), .mv (.t 1), none, 131072, 0, []⟩,
   ⟨(some 10), .bin .lss (.t 9) (.k (.int .i64 0)), none, 131328, 1, []⟩])
 (.cond (.t 10)
  (.seq (.reg [⟨(some 4), .mv (.k (.int .i64 (-1))), none, 196608, 0, []⟩])
  (.ret))
  (.skip)))
 (.seq (.reg [⟨(some 11), .faddr 1 (.t 2), none, 262144, 0, []⟩,
   ⟨(some 12), .load 1 false (.t 11), none, 262400, 1, []⟩,
   ⟨(some 13), .mv (.t 1), none, 262656, 2, []⟩,
   ⟨(some 14), .call 46 [(.t 12), (.t 13)] true, none, 262912, 3, []⟩,
   ⟨(some 1), .mv (.t 14), none, 263168, 4, []⟩])
 (.seq (.seq (.reg [⟨(some 15), .mv (.t 1), none, 327680, 0, []⟩,
   ⟨(some 16), .bin .lss (.t 15) (.k (.int .i64 0)), none, 327936, 1, []⟩])
 (.cond (.t 16)
  (.seq (.reg [⟨(some 4), .mv (.k (.int .i64 (-1))), none, 393216, 0, []⟩])
  (.ret))
  (.skip)))
 (.seq (.reg [⟨(some 17), .mv (.t 1), none, 458752, 0, []⟩,
   ⟨(some 4), .mv (.t 17), none, 459008, 1, []⟩])
 (.ret))))))⟩
/-- loop.example/g00849/spec.WriteSector -/
def F19 : F := ⟨3, 42, [.cell 6 2 true, .t 7],
 .seq (.reg [⟨(some 3), .box (.t 0), none, 0, 0, []⟩,
   ⟨(some 6), .alloc [(.nil true 1), (.nil true 2)], none, 256, 1, []⟩,
   ⟨(some 7), .mv (.k (.int .i64 0)), none, 512, 2, []⟩])
 (.seq (.block 0 (.seq (.reg [⟨(some 10), .load 2 true (.t 3), none, 65536, 0, []⟩,
   ⟨(some 11), .call 13 [(.t 10)] true, none, 65792, 1, []⟩,
   ⟨(some 12), .not (.t 11), none, 66048, 2, []⟩,
   ⟨(some 13), .mv (.t 12), none, 66304, 3, []⟩,
   ⟨(some 14), .mv (.t 2), (some (some 13, false)), 66560, 4, []⟩,
   ⟨(some 15), .len true (.t 14), (some (some 13, false)), 66816, 5, []⟩,
   ⟨(some 16), .bin .neq (.t 15) (.k (.int .i64 64)), (some (some 13, false)), 67072, 6, []⟩,
   ⟨(some 17), .pick (.t 13) (.k (.bool true)) (.t 16), none, 67328, 7, []⟩,
   ⟨(some 9), .mv (.t 17), none, 67584, 8, []⟩])
 (.cond (.t 9)
  (.seq (.reg [⟨(some 18), .build [(.nil true 1), (.nil true 2)] [], none, 131072, 0, []⟩,
    ⟨none, .store 2 (.t 6) (.t 18), none, 131328, 1, []⟩,
    ⟨(some 7), .mv (.k (.int .i64 1)), none, 131584, 2, []⟩])
  (.ret))
  (.seq (.reg [⟨(some 20), .load 2 true (.t 3), none, 196608, 0, []⟩,
    ⟨(some 21), .mv (.t 1), none, 196864, 1, []⟩,
    ⟨(some 22), .call 47 [(.t 20), (.t 21)] true, none, 197120, 2, []⟩,
    ⟨(some 23), .not (.t 22), none, 197376, 3, []⟩,
    ⟨(some 19), .mv (.t 23), none, 197632, 4, []⟩])
  (.cond (.t 19)
   (.seq (.reg [⟨(some 24), .build [(.nil true 1), (.nil true 2)] [], none, 262144, 0, []⟩,
     ⟨none, .store 2 (.t 6) (.t 24), none, 262400, 1, []⟩,
     ⟨(some 7), .mv (.k (.int .i64 2)), none, 262656, 2, []⟩])
   (.ret))
   (.seq (.reg [⟨(some 26), .faddr 1 (.t 3), none, 327680, 0, []⟩,
     ⟨(some 27), .load 1 false (.t 26), none, 327936, 1, []⟩,
     ⟨(some 28), .len false (.t 27), none, 328192, 2, []⟩,
     ⟨(some 29), .bin .geq (.t 28) (.k (.int .i64 600)), none, 328448, 3, []⟩,
     ⟨(some 25), .mv (.t 29), none, 328704, 4, []⟩])
   (.cond (.t 25)
    (.seq (.reg [⟨(some 30), .build [(.nil true 1), (.nil true 2)] [], none, 393216, 0, []⟩,
      ⟨none, .store 2 (.t 6) (.t 30), none, 393472, 1, []⟩,
      ⟨(some 7), .mv (.k (.int .i64 4)), none, 393728, 2, []⟩])
    (.ret))
    (.skip))))))))
 (.seq (.reg [⟨(some 31), .load 2 true (.t 3), none, 458752, 0, []⟩,
   ⟨(some 32), .call 48 [(.t 31)] false, none, 459008, 1, []⟩,
   ⟨(some 8), .alloc [(.nil true 1), (.nil true 2)], none, 459264, 2, []⟩,
   ⟨none, .store 2 (.t 8) (.t 32), none, 459520, 3, []⟩])
 (.seq (.reg [⟨(some 33), .faddr 1 (.t 8), none, 524288, 0, []⟩,
   ⟨(some 34), .load 1 false (.t 33), none, 524544, 1, []⟩,
   ⟨(some 35), .mv (.t 1), none, 524800, 2, []⟩,
   ⟨(some 36), .mv (.t 2), none, 525056, 3, []⟩,
   ⟨(some 37), .build [(.int .i64 0), (.str ByteArray.empty)] [(0, 1, (.t 35)), (1, 1, (.t 36))], none, 525312, 4, []⟩,
   ⟨(some 38), .bslice true 2 [(.int .i64 0), (.str ByteArray.empty)] 1 [(0, (.t 37))], none, 525568, 5, []⟩,
   ⟨(some 39), .app true 2 24 (.t 34) (.t 38), none, 525824, 6, []⟩,
   ⟨(some 40), .faddr 1 (.t 8), none, 526080, 7, []⟩,
   ⟨none, .store 1 (.t 40) (.t 39), none, 526336, 8, []⟩])
 (.seq (.reg [⟨(some 41), .load 2 true (.t 8), none, 589824, 0, []⟩,
   ⟨none, .store 2 (.t 6) (.t 41), none, 590080, 1, []⟩,
   ⟨(some 7), .mv (.k (.int .i64 0)), none, 590336, 2, []⟩])
 (.ret)))))⟩
/-- loop.example/g00849/laws.toDisk -/
def F20 : F := ⟨1, 13, [.cell 2 2 true],
 .seq (.reg [⟨(some 1), .box (.t 0), none, 0, 0, []⟩,
   ⟨(some 2), .alloc [(.nil true 1), (.nil true 2)], none, 256, 1, []⟩])
 (.seq (.reg [⟨(some 3), .alloc [(.nil true 1), (.nil true 2)], none, 65536, 0, []⟩])
 (.seq (.reg [⟨(some 4), .faddr 0 (.t 1), none, 131072, 0, []⟩,
   ⟨(some 5), .load 1 false (.t 4), none, 131328, 1, []⟩,
   ⟨(some 6), .call 27 [(.t 5)] false, none, 131584, 2, []⟩,
   ⟨(some 7), .faddr 0 (.t 3), none, 131840, 3, []⟩,
   ⟨none, .store 1 (.t 7) (.t 6), none, 132096, 4, []⟩])
 (.seq (.reg [⟨(some 8), .faddr 1 (.t 1), none, 196608, 0, []⟩,
   ⟨(some 9), .load 1 false (.t 8), none, 196864, 1, []⟩,
   ⟨(some 10), .call 49 [(.t 9)] false, none, 197120, 2, []⟩,
   ⟨(some 11), .faddr 1 (.t 3), none, 197376, 3, []⟩,
   ⟨none, .store 1 (.t 11) (.t 10), none, 197632, 4, []⟩])
 (.seq (.reg [⟨(some 12), .load 2 true (.t 3), none, 262144, 0, []⟩,
   ⟨none, .store 2 (.t 2) (.t 12), none, 262400, 1, []⟩])
 (.ret)))))⟩
/-- loop.example/g00849/laws.eqDisk -/
def F21 : F := ⟨2, 17, [.t 4],
 .seq (.reg [⟨(some 2), .box (.t 0), none, 0, 0, []⟩,
   ⟨(some 3), .box (.t 1), none, 256, 1, []⟩,
   ⟨(some 4), .mv (.k (.bool false)), none, 512, 2, []⟩])
 (.seq (.seq (.reg [⟨(some 5), .faddr 0 (.t 2), none, 65536, 0, []⟩,
   ⟨(some 6), .load 1 false (.t 5), none, 65792, 1, []⟩,
   ⟨(some 7), .faddr 0 (.t 3), none, 66048, 2, []⟩,
   ⟨(some 8), .load 1 false (.t 7), none, 66304, 3, []⟩,
   ⟨(some 9), .call 29 [(.t 6), (.t 8)] true, none, 66560, 4, []⟩,
   ⟨(some 10), .not (.t 9), none, 66816, 5, []⟩])
 (.cond (.t 10)
  (.seq (.reg [⟨(some 4), .mv (.k (.bool false)), none, 131072, 0, []⟩])
  (.ret))
  (.skip)))
 (.seq (.seq (.reg [⟨(some 11), .faddr 1 (.t 2), none, 196608, 0, []⟩,
   ⟨(some 12), .load 1 false (.t 11), none, 196864, 1, []⟩,
   ⟨(some 13), .faddr 1 (.t 3), none, 197120, 2, []⟩,
   ⟨(some 14), .load 1 false (.t 13), none, 197376, 3, []⟩,
   ⟨(some 15), .call 50 [(.t 12), (.t 14)] true, none, 197632, 4, []⟩,
   ⟨(some 16), .not (.t 15), none, 197888, 5, []⟩])
 (.cond (.t 16)
  (.seq (.reg [⟨(some 4), .mv (.k (.bool false)), none, 262144, 0, []⟩])
  (.ret))
  (.skip)))
 (.seq (.reg [⟨(some 4), .mv (.k (.bool true)), none, 327680, 0, []⟩])
 (.ret))))⟩
/-- loop.example/g00849/laws.markDisk -/
def F22 : F := ⟨2, 14, [.t 4],
 .seq (.reg [⟨(some 2), .box (.t 0), none, 0, 0, []⟩,
   ⟨(some 4), .mv (.k (.int .i64 0)), none, 256, 1, []⟩])
 (.seq (.reg [⟨(some 5), .faddr 0 (.t 2), none, 65536, 0, []⟩,
   ⟨(some 6), .load 1 false (.t 5), none, 65792, 1, []⟩,
   ⟨(some 7), .mv (.t 1), none, 66048, 2, []⟩,
   ⟨(some 8), .call 30 [(.t 6), (.t 7)] true, none, 66304, 3, []⟩,
   ⟨(some 1), .mv (.t 8), none, 66560, 4, []⟩])
 (.seq (.reg [⟨(some 9), .faddr 1 (.t 2), none, 131072, 0, []⟩,
   ⟨(some 10), .load 1 false (.t 9), none, 131328, 1, []⟩,
   ⟨(some 11), .mv (.t 1), none, 131584, 2, []⟩,
   ⟨(some 12), .call 51 [(.t 10), (.t 11)] true, none, 131840, 3, []⟩,
   ⟨(some 1), .mv (.t 12), none, 132096, 4, []⟩])
 (.seq (.reg [⟨(some 13), .mv (.t 1), none, 196608, 0, []⟩,
   ⟨(some 4), .mv (.t 13), none, 196864, 1, []⟩])
 (.ret))))⟩
/-- loop.example/g00849/laws.heldDisk -/
def F23 : F := ⟨2, 18, [.t 4],
 .seq (.reg [⟨(some 2), .box (.t 0), none, 0, 0, []⟩,
   ⟨(some 4), .mv (.k (.int .i64 0)), none, 256, 1, []⟩])
 (.seq (.reg [⟨(some 5), .faddr 0 (.t 2), none, 65536, 0, []⟩,
   ⟨(some 6), .load 1 false (.t 5), none, 65792, 1, []⟩,
   ⟨(some 7), .mv (.t 1), none, 66048, 2, []⟩,
   ⟨(some 8), .call 52 [(.t 6), (.t 7)] true, none, 66304, 3, []⟩,
   ⟨(some 1), .mv (.t 8), none, 66560, 4, []⟩])
 (.seq (.seq (.reg [⟨(some 9), .mv (.t 1), none, 131072, 0, []⟩,
   ⟨(some 10), .bin .lss (.t 9) (.k (.int .i64 0)), none, 131328, 1, []⟩])
 (.cond (.t 10)
  (.seq (.reg [⟨(some 4), .mv (.k (.int .i64 (-1))), none, 196608, 0, []⟩])
  (.ret))
  (.skip)))
 (.seq (.reg [⟨(some 11), .faddr 1 (.t 2), none, 262144, 0, []⟩,
   ⟨(some 12), .load 1 false (.t 11), none, 262400, 1, []⟩,
   ⟨(some 13), .mv (.t 1), none, 262656, 2, []⟩,
   ⟨(some 14), .call 53 [(.t 12), (.t 13)] true, none, 262912, 3, []⟩,
   ⟨(some 1), .mv (.t 14), none, 263168, 4, []⟩])
 (.seq (.seq (.reg [⟨(some 15), .mv (.t 1), none, 327680, 0, []⟩,
   ⟨(some 16), .bin .lss (.t 15) (.k (.int .i64 0)), none, 327936, 1, []⟩])
 (.cond (.t 16)
  (.seq (.reg [⟨(some 4), .mv (.k (.int .i64 (-1))), none, 393216, 0, []⟩])
  (.ret))
  (.skip)))
 (.seq (.reg [⟨(some 17), .mv (.t 1), none, 458752, 0, []⟩,
   ⟨(some 4), .mv (.t 17), none, 459008, 1, []⟩])
 (.ret))))))⟩
/-- loop.example/g00849/spec.RotSector -/
def F24 : F := ⟨4, 45, [.cell 8 2 true, .t 9],
 .seq (.reg [⟨(some 4), .box (.t 0), none, 0, 0, []⟩,
   ⟨(some 8), .alloc [(.nil true 1), (.nil true 2)], none, 256, 1, []⟩,
   ⟨(some 9), .mv (.k (.int .i64 0)), none, 512, 2, []⟩])
 (.seq (.seq (.reg [⟨(some 11), .load 2 true (.t 4), none, 65536, 0, []⟩,
   ⟨(some 12), .call 13 [(.t 11)] true, none, 65792, 1, []⟩,
   ⟨(some 13), .not (.t 12), none, 66048, 2, []⟩])
 (.cond (.t 13)
  (.seq (.reg [⟨(some 14), .build [(.nil true 1), (.nil true 2)] [], none, 131072, 0, []⟩,
    ⟨none, .store 2 (.t 8) (.t 14), none, 131328, 1, []⟩,
    ⟨(some 9), .mv (.k (.int .i64 1)), none, 131584, 2, []⟩])
  (.ret))
  (.skip)))
 (.seq (.seq (.reg [⟨(some 15), .load 2 true (.t 4), none, 196608, 0, []⟩,
   ⟨(some 16), .mv (.t 1), none, 196864, 1, []⟩,
   ⟨(some 17), .call 47 [(.t 15), (.t 16)] true, none, 197120, 2, []⟩,
   ⟨(some 18), .not (.t 17), none, 197376, 3, []⟩,
   ⟨(some 19), .mv (.t 18), none, 197632, 4, []⟩,
   ⟨(some 20), .mv (.t 2), (some (some 19, false)), 197888, 5, []⟩,
   ⟨(some 21), .call 39 [(.t 20), (.k (.int .i64 0)), (.k (.int .i64 63))] true, (some (some 19, false)), 198144, 6, []⟩,
   ⟨(some 22), .not (.t 21), (some (some 19, false)), 198400, 7, []⟩,
   ⟨(some 23), .pick (.t 19) (.k (.bool true)) (.t 22), none, 198656, 8, []⟩,
   ⟨(some 24), .mv (.t 23), none, 198912, 9, []⟩,
   ⟨(some 25), .mv (.t 3), (some (some 24, false)), 199168, 10, []⟩,
   ⟨(some 26), .call 39 [(.t 25), (.k (.int .i64 1)), (.k (.int .i64 255))] true, (some (some 24, false)), 199424, 11, []⟩,
   ⟨(some 27), .not (.t 26), (some (some 24, false)), 199680, 12, []⟩,
   ⟨(some 28), .pick (.t 24) (.k (.bool true)) (.t 27), none, 199936, 13, []⟩])
 (.cond (.t 28)
  (.seq (.reg [⟨(some 29), .build [(.nil true 1), (.nil true 2)] [], none, 262144, 0, []⟩,
    ⟨none, .store 2 (.t 8) (.t 29), none, 262400, 1, []⟩,
    ⟨(some 9), .mv (.k (.int .i64 2)), none, 262656, 2, []⟩])
  (.ret))
  (.skip)))
 (.seq (.reg [⟨(some 30), .load 2 true (.t 4), none, 327680, 0, []⟩,
   ⟨(some 31), .call 48 [(.t 30)] false, none, 327936, 1, []⟩,
   ⟨(some 10), .alloc [(.nil true 1), (.nil true 2)], none, 328192, 2, []⟩,
   ⟨none, .store 2 (.t 10) (.t 31), none, 328448, 3, []⟩])
 (.seq (.reg [⟨(some 32), .faddr 0 (.t 10), none, 393216, 0, []⟩,
   ⟨(some 33), .load 1 false (.t 32), none, 393472, 1, []⟩,
   ⟨(some 34), .mv (.t 1), none, 393728, 2, []⟩,
   ⟨(some 35), .faddr 0 (.t 10), none, 393984, 3, []⟩,
   ⟨(some 36), .load 1 false (.t 35), none, 394240, 4, []⟩,
   ⟨(some 37), .mv (.t 1), none, 394496, 5, []⟩,
   ⟨(some 38), .iaddr 1 (.t 36) (.t 37), none, 394752, 6, []⟩,
   ⟨(some 39), .load 1 false (.t 38), none, 395008, 7, []⟩,
   ⟨(some 40), .mv (.t 2), none, 395264, 8, []⟩,
   ⟨(some 41), .mv (.t 3), none, 395520, 9, []⟩,
   ⟨(some 42), .call 54 [(.t 39), (.t 40), (.t 41)] true, none, 395776, 10, []⟩,
   ⟨(some 43), .iaddr 1 (.t 33) (.t 34), none, 396032, 11, []⟩,
   ⟨none, .store 1 (.t 43) (.t 42), none, 396288, 12, []⟩])
 (.seq (.reg [⟨(some 44), .load 2 true (.t 10), none, 458752, 0, []⟩,
   ⟨none, .store 2 (.t 8) (.t 44), none, 459008, 1, []⟩,
   ⟨(some 9), .mv (.k (.int .i64 0)), none, 459264, 2, []⟩])
 (.ret))))))⟩
/-- loop.example/g00849/laws.szStringS -/
def F25 : F := ⟨2, 28, [.t 4],
 .seq (.reg [⟨(some 4), .mv (.k (.int .i64 0)), none, 0, 0, []⟩])
 (.seq (.reg [⟨(some 6), .mv (.t 1), none, 65536, 0, []⟩,
   ⟨(some 7), .mv (.t 0), none, 65792, 1, []⟩,
   ⟨(some 8), .len false (.t 7), none, 66048, 2, []⟩,
   ⟨(some 9), .bin .sub (.t 6) (.t 8), none, 66304, 3, []⟩,
   ⟨(some 1), .mv (.t 9), none, 66560, 4, []⟩])
 (.seq (.seq (.reg [⟨(some 10), .mv (.t 1), none, 131072, 0, []⟩,
   ⟨(some 11), .bin .lss (.t 10) (.k (.int .i64 0)), none, 131328, 1, []⟩])
 (.cond (.t 11)
  (.seq (.reg [⟨(some 4), .mv (.k (.int .i64 (-1))), none, 196608, 0, []⟩])
  (.ret))
  (.skip)))
 (.seq (.seq (.reg [⟨(some 5), .mv (.k (.int .i64 0)), none, 262144, 0, []⟩])
 (.block 0 (.loop [0, 1, 5] []
  (.seq (.seq (.reg [⟨(some 12), .mv (.t 5), none, 327680, 0, []⟩,
    ⟨(some 13), .mv (.t 0), none, 327936, 1, []⟩,
    ⟨(some 14), .len false (.t 13), none, 328192, 2, []⟩,
    ⟨(some 15), .bin .lss (.t 12) (.t 14), none, 328448, 3, []⟩])
  (.cond (.t 15)
   (.skip)
   (.exit 0)))
  (.seq (.block 1 (.seq (.reg [⟨(some 18), .mv (.t 1), none, 458752, 0, []⟩,
    ⟨(some 19), .mv (.t 0), none, 459008, 1, []⟩,
    ⟨(some 20), .mv (.t 5), none, 459264, 2, []⟩,
    ⟨(some 21), .iaddr 1 (.t 19) (.t 20), none, 459520, 3, []⟩,
    ⟨(some 22), .load 1 false (.t 21), none, 459776, 4, []⟩,
    ⟨(some 23), .len true (.t 22), none, 460032, 5, []⟩,
    ⟨(some 24), .bin .sub (.t 18) (.t 23), none, 460288, 6, []⟩,
    ⟨(some 1), .mv (.t 24), none, 460544, 7, []⟩])
  (.seq (.reg [⟨(some 25), .mv (.t 1), none, 524288, 0, []⟩,
    ⟨(some 26), .bin .lss (.t 25) (.k (.int .i64 0)), none, 524544, 1, []⟩])
  (.cond (.t 26)
   (.seq (.reg [⟨(some 4), .mv (.k (.int .i64 (-1))), none, 589824, 0, []⟩])
   (.ret))
   (.skip)))))
  (.reg [⟨(some 16), .mv (.t 5), none, 393216, 0, []⟩,
    ⟨(some 17), .bin .add (.t 16) (.k (.int .i64 1)), none, 393472, 1, []⟩,
    ⟨(some 5), .mv (.t 17), none, 393728, 2, []⟩]))))))
 (.seq (.reg [⟨(some 27), .mv (.t 1), none, 655360, 0, []⟩,
   ⟨(some 4), .mv (.t 27), none, 655616, 1, []⟩])
 (.ret)))))⟩
/-- loop.example/g00849/spec.WriteAll -/
def F26 : F := ⟨3, 79, [.cell 6 2 true, .t 7],
 .seq (.reg [⟨(some 3), .box (.t 0), none, 0, 0, []⟩,
   ⟨(some 6), .alloc [(.nil true 1), (.nil true 2)], none, 256, 1, []⟩,
   ⟨(some 7), .mv (.k (.int .i64 0)), none, 512, 2, []⟩])
 (.seq (.seq (.reg [⟨(some 12), .load 2 true (.t 3), none, 65536, 0, []⟩,
   ⟨(some 13), .call 13 [(.t 12)] true, none, 65792, 1, []⟩,
   ⟨(some 14), .not (.t 13), none, 66048, 2, []⟩])
 (.cond (.t 14)
  (.seq (.reg [⟨(some 15), .build [(.nil true 1), (.nil true 2)] [], none, 131072, 0, []⟩,
    ⟨none, .store 2 (.t 6) (.t 15), none, 131328, 1, []⟩,
    ⟨(some 7), .mv (.k (.int .i64 1)), none, 131584, 2, []⟩])
  (.ret))
  (.skip)))
 (.seq (.seq (.reg [⟨(some 8), .mv (.k (.int .i64 0)), none, 196608, 0, []⟩])
 (.block 0 (.loop [1, 2, 3, 6, 8] [0, 1, 2, 3, 4, 5, 256, 257, 258, 131329, 131330, 655617, 655618, 786689, 786690, 852224, 852225, 852226, 852227, 852480, 852481, 852482, 852737, 852738, 1116672, 1116928, 1117441, 1179905, 1179906]
  (.seq (.seq (.reg [⟨(some 16), .mv (.t 8), none, 262144, 0, []⟩,
    ⟨(some 17), .mv (.t 2), none, 262400, 1, []⟩,
    ⟨(some 18), .len false (.t 17), none, 262656, 2, []⟩,
    ⟨(some 19), .bin .lss (.t 16) (.t 18), none, 262912, 3, []⟩])
  (.cond (.t 19)
   (.skip)
   (.exit 0)))
  (.seq (.block 1 (.seq (.reg [⟨(some 22), .mv (.t 2), none, 393216, 0, []⟩,
    ⟨(some 23), .mv (.t 8), none, 393472, 1, []⟩,
    ⟨(some 24), .iaddr 1 (.t 22) (.t 23), none, 393728, 2, []⟩,
    ⟨(some 25), .load 1 false (.t 24), none, 393984, 3, []⟩,
    ⟨(some 26), .len true (.t 25), none, 394240, 4, []⟩,
    ⟨(some 27), .bin .neq (.t 26) (.k (.int .i64 64)), none, 394496, 5, []⟩])
  (.cond (.t 27)
   (.seq (.reg [⟨(some 28), .build [(.nil true 1), (.nil true 2)] [], none, 458752, 0, []⟩,
     ⟨none, .store 2 (.t 6) (.t 28), none, 459008, 1, []⟩,
     ⟨(some 7), .mv (.k (.int .i64 1)), none, 459264, 2, []⟩])
   (.ret))
   (.skip))))
  (.reg [⟨(some 20), .mv (.t 8), none, 327680, 0, []⟩,
    ⟨(some 21), .bin .add (.t 20) (.k (.int .i64 1)), none, 327936, 1, []⟩,
    ⟨(some 8), .mv (.t 21), none, 328192, 2, []⟩]))))))
 (.seq (.reg [⟨(some 29), .mv (.t 2), none, 524288, 0, []⟩,
   ⟨(some 30), .len false (.t 29), none, 524544, 1, []⟩,
   ⟨(some 9), .mv (.t 30), none, 524800, 2, []⟩])
 (.seq (.block 2 (.seq (.reg [⟨(some 32), .mv (.t 9), none, 589824, 0, []⟩,
   ⟨(some 33), .bin .gtr (.t 32) (.k (.int .i64 0)), none, 590080, 1, []⟩,
   ⟨(some 34), .mv (.t 33), none, 590336, 2, []⟩,
   ⟨(some 35), .load 2 true (.t 3), (some (some 34, true)), 590592, 3, []⟩,
   ⟨(some 36), .mv (.t 1), (some (some 34, true)), 590848, 4, []⟩,
   ⟨(some 37), .call 47 [(.t 35), (.t 36)] true, (some (some 34, true)), 591104, 5, []⟩,
   ⟨(some 38), .not (.t 37), (some (some 34, true)), 591360, 6, []⟩,
   ⟨(some 39), .mv (.t 38), (some (some 34, true)), 591616, 7, []⟩,
   ⟨(some 40), .mv (.t 9), (some (some 39, false)), 591872, 8, []⟩,
   ⟨(some 41), .faddr 0 (.t 3), (some (some 39, false)), 592128, 9, []⟩,
   ⟨(some 42), .load 1 false (.t 41), (some (some 39, false)), 592384, 10, []⟩,
   ⟨(some 43), .len false (.t 42), (some (some 39, false)), 592640, 11, []⟩,
   ⟨(some 44), .mv (.t 1), (some (some 39, false)), 592896, 12, []⟩,
   ⟨(some 45), .bin .sub (.t 43) (.t 44), (some (some 39, false)), 593152, 13, []⟩,
   ⟨(some 46), .bin .gtr (.t 40) (.t 45), (some (some 39, false)), 593408, 14, []⟩,
   ⟨(some 47), .pick (.t 39) (.k (.bool true)) (.t 46), (some (some 34, true)), 593664, 15, []⟩,
   ⟨(some 48), .pick (.t 34) (.t 47) (.k (.bool false)), none, 593920, 16, []⟩,
   ⟨(some 31), .mv (.t 48), none, 594176, 17, []⟩])
 (.cond (.t 31)
  (.seq (.reg [⟨(some 49), .build [(.nil true 1), (.nil true 2)] [], none, 655360, 0, []⟩,
    ⟨none, .store 2 (.t 6) (.t 49), none, 655616, 1, []⟩,
    ⟨(some 7), .mv (.k (.int .i64 2)), none, 655872, 2, []⟩])
  (.ret))
  (.seq (.reg [⟨(some 51), .mv (.t 9), none, 720896, 0, []⟩,
    ⟨(some 52), .faddr 1 (.t 3), none, 721152, 1, []⟩,
    ⟨(some 53), .load 1 false (.t 52), none, 721408, 2, []⟩,
    ⟨(some 54), .len false (.t 53), none, 721664, 3, []⟩,
    ⟨(some 55), .bin .sub (.k (.int .i64 600)) (.t 54), none, 721920, 4, []⟩,
    ⟨(some 56), .bin .gtr (.t 51) (.t 55), none, 722176, 5, []⟩,
    ⟨(some 50), .mv (.t 56), none, 722432, 6, []⟩])
  (.cond (.t 50)
   (.seq (.reg [⟨(some 57), .build [(.nil true 1), (.nil true 2)] [], none, 786432, 0, []⟩,
     ⟨none, .store 2 (.t 6) (.t 57), none, 786688, 1, []⟩,
     ⟨(some 7), .mv (.k (.int .i64 4)), none, 786944, 2, []⟩])
   (.ret))
   (.skip))))))
 (.seq (.reg [⟨(some 58), .load 2 true (.t 3), none, 851968, 0, []⟩,
   ⟨(some 59), .call 48 [(.t 58)] false, none, 852224, 1, []⟩,
   ⟨(some 10), .alloc [(.nil true 1), (.nil true 2)], none, 852480, 2, []⟩,
   ⟨none, .store 2 (.t 10) (.t 59), none, 852736, 3, []⟩])
 (.seq (.seq (.reg [⟨(some 11), .mv (.k (.int .i64 0)), none, 917504, 0, []⟩])
 (.block 3 (.loop [1, 2, 6, 9, 10, 11] [0, 1, 2, 3, 4, 5, 256, 257, 258, 131329, 131330, 459009, 459010, 655617, 655618, 786689, 786690, 852224, 852225, 852226, 852227, 852480, 852481, 852482, 852737, 852738, 1179905, 1179906]
  (.seq (.seq (.reg [⟨(some 60), .mv (.t 11), none, 983040, 0, []⟩,
    ⟨(some 61), .mv (.t 9), none, 983296, 1, []⟩,
    ⟨(some 62), .bin .lss (.t 60) (.t 61), none, 983552, 2, []⟩])
  (.cond (.t 62)
   (.skip)
   (.exit 3)))
  (.seq (.block 4 (.reg [⟨(some 65), .faddr 1 (.t 10), none, 1114112, 0, []⟩,
    ⟨(some 66), .load 1 false (.t 65), none, 1114368, 1, []⟩,
    ⟨(some 67), .mv (.t 1), none, 1114624, 2, []⟩,
    ⟨(some 68), .mv (.t 11), none, 1114880, 3, []⟩,
    ⟨(some 69), .bin .add (.t 67) (.t 68), none, 1115136, 4, []⟩,
    ⟨(some 70), .mv (.t 2), none, 1115392, 5, []⟩,
    ⟨(some 71), .mv (.t 11), none, 1115648, 6, []⟩,
    ⟨(some 72), .iaddr 1 (.t 70) (.t 71), none, 1115904, 7, []⟩,
    ⟨(some 73), .load 1 false (.t 72), none, 1116160, 8, []⟩,
    ⟨(some 74), .build [(.int .i64 0), (.str ByteArray.empty)] [(0, 1, (.t 69)), (1, 1, (.t 73))], none, 1116416, 9, []⟩,
    ⟨(some 75), .bslice true 2 [(.int .i64 0), (.str ByteArray.empty)] 1 [(0, (.t 74))], none, 1116672, 10, []⟩,
    ⟨(some 76), .app true 2 24 (.t 66) (.t 75), none, 1116928, 11, []⟩,
    ⟨(some 77), .faddr 1 (.t 10), none, 1117184, 12, []⟩,
    ⟨none, .store 1 (.t 77) (.t 76), none, 1117440, 13, []⟩]))
  (.reg [⟨(some 63), .mv (.t 11), none, 1048576, 0, []⟩,
    ⟨(some 64), .bin .add (.t 63) (.k (.int .i64 1)), none, 1048832, 1, []⟩,
    ⟨(some 11), .mv (.t 64), none, 1049088, 2, []⟩]))))))
 (.seq (.reg [⟨(some 78), .load 2 true (.t 10), none, 1179648, 0, []⟩,
   ⟨none, .store 2 (.t 6) (.t 78), none, 1179904, 1, []⟩,
   ⟨(some 7), .mv (.k (.int .i64 0)), none, 1180160, 2, []⟩])
 (.ret))))))))⟩
/-- loop.example/g00849/laws.toStringS -/
def F27 : F := ⟨1, 22, [.t 2],
 .seq (.reg [⟨(some 2), .nil0 true 1, none, 0, 0, []⟩])
 (.seq (.reg [⟨(some 5), .mv (.t 0), none, 65536, 0, []⟩,
   ⟨(some 6), .len false (.t 5), none, 65792, 1, []⟩,
   ⟨(some 7), .mksl true 1 16 [(.str ByteArray.empty)] (.t 6) (.t 6), none, 66048, 2, []⟩,
   ⟨(some 3), .mv (.t 7), none, 66304, 3, []⟩])
 (.seq (.seq (.reg [⟨(some 4), .mv (.k (.int .i64 0)), none, 131072, 0, []⟩])
 (.block 0 (.loop [0, 3, 4] [0, 66048]
  (.seq (.seq (.reg [⟨(some 8), .mv (.t 4), none, 196608, 0, []⟩,
    ⟨(some 9), .mv (.t 0), none, 196864, 1, []⟩,
    ⟨(some 10), .len false (.t 9), none, 197120, 2, []⟩,
    ⟨(some 11), .bin .lss (.t 8) (.t 10), none, 197376, 3, []⟩])
  (.cond (.t 11)
   (.skip)
   (.exit 0)))
  (.seq (.block 1 (.reg [⟨(some 14), .mv (.t 3), none, 327680, 0, []⟩,
    ⟨(some 15), .mv (.t 4), none, 327936, 1, []⟩,
    ⟨(some 16), .mv (.t 0), none, 328192, 2, []⟩,
    ⟨(some 17), .mv (.t 4), none, 328448, 3, []⟩,
    ⟨(some 18), .iaddr 1 (.t 16) (.t 17), none, 328704, 4, []⟩,
    ⟨(some 19), .load 1 false (.t 18), none, 328960, 5, []⟩,
    ⟨(some 20), .iaddr 1 (.t 14) (.t 15), none, 329216, 6, []⟩,
    ⟨none, .store 1 (.t 20) (.t 19), none, 329472, 7, []⟩]))
  (.reg [⟨(some 12), .mv (.t 4), none, 262144, 0, []⟩,
    ⟨(some 13), .bin .add (.t 12) (.k (.int .i64 1)), none, 262400, 1, []⟩,
    ⟨(some 4), .mv (.t 13), none, 262656, 2, []⟩]))))))
 (.seq (.reg [⟨(some 21), .mv (.t 3), none, 393216, 0, []⟩,
   ⟨(some 2), .mv (.t 21), none, 393472, 1, []⟩])
 (.ret))))⟩
/-- loop.example/g00849/impl.WriteAll -/
def F28 : F := ⟨3, 53, [.cell 6 2 true, .t 7],
 .seq (.reg [⟨(some 3), .box (.t 0), none, 0, 0, []⟩,
   ⟨(some 6), .alloc [(.nil true 1), (.nil true 2)], none, 256, 1, []⟩,
   ⟨(some 7), .mv (.k (.int .i64 0)), none, 512, 2, []⟩])
 (.seq (.block 0 (.seq (.reg [⟨(some 9), .load 2 true (.t 3), none, 65536, 0, []⟩,
   ⟨(some 10), .call 34 [(.t 9)] true, none, 65792, 1, []⟩,
   ⟨(some 11), .not (.t 10), none, 66048, 2, []⟩,
   ⟨(some 12), .mv (.t 11), none, 66304, 3, []⟩,
   ⟨(some 13), .mv (.t 2), (some (some 12, false)), 66560, 4, []⟩,
   ⟨(some 14), .call 55 [(.t 13), (.k (.fn 56 []))] true, (some (some 12, false)), 66816, 5, []⟩,
   ⟨(some 15), .pick (.t 12) (.k (.bool true)) (.t 14), none, 67072, 6, []⟩,
   ⟨(some 8), .mv (.t 15), none, 67328, 7, []⟩])
 (.cond (.t 8)
  (.seq (.reg [⟨(some 16), .build [(.nil true 1), (.nil true 2)] [], none, 131072, 0, []⟩,
    ⟨none, .store 2 (.t 6) (.t 16), none, 131328, 1, []⟩,
    ⟨(some 7), .mv (.k (.int .i64 1)), none, 131584, 2, []⟩])
  (.ret))
  (.seq (.reg [⟨(some 18), .mv (.t 2), none, 196608, 0, []⟩,
    ⟨(some 19), .len false (.t 18), none, 196864, 1, []⟩,
    ⟨(some 20), .bin .gtr (.t 19) (.k (.int .i64 0)), none, 197120, 2, []⟩,
    ⟨(some 21), .mv (.t 20), none, 197376, 3, []⟩,
    ⟨(some 22), .mv (.t 1), (some (some 21, true)), 197632, 4, []⟩,
    ⟨(some 23), .faddr 0 (.t 3), (some (some 21, true)), 197888, 5, []⟩,
    ⟨(some 24), .load 1 false (.t 23), (some (some 21, true)), 198144, 6, []⟩,
    ⟨(some 25), .len false (.t 24), (some (some 21, true)), 198400, 7, []⟩,
    ⟨(some 26), .call 42 [(.t 22), (.t 25)] true, (some (some 21, true)), 198656, 8, []⟩,
    ⟨(some 27), .not (.t 26), (some (some 21, true)), 198912, 9, []⟩,
    ⟨(some 28), .mv (.t 27), (some (some 21, true)), 199168, 10, []⟩,
    ⟨(some 29), .mv (.t 2), (some (some 28, false)), 199424, 11, []⟩,
    ⟨(some 30), .len false (.t 29), (some (some 28, false)), 199680, 12, []⟩,
    ⟨(some 31), .faddr 0 (.t 3), (some (some 28, false)), 199936, 13, []⟩,
    ⟨(some 32), .load 1 false (.t 31), (some (some 28, false)), 200192, 14, []⟩,
    ⟨(some 33), .len false (.t 32), (some (some 28, false)), 200448, 15, []⟩,
    ⟨(some 34), .mv (.t 1), (some (some 28, false)), 200704, 16, []⟩,
    ⟨(some 35), .bin .sub (.t 33) (.t 34), (some (some 28, false)), 200960, 17, []⟩,
    ⟨(some 36), .bin .gtr (.t 30) (.t 35), (some (some 28, false)), 201216, 18, []⟩,
    ⟨(some 37), .pick (.t 28) (.k (.bool true)) (.t 36), (some (some 21, true)), 201472, 19, []⟩,
    ⟨(some 38), .pick (.t 21) (.t 37) (.k (.bool false)), none, 201728, 20, []⟩,
    ⟨(some 17), .mv (.t 38), none, 201984, 21, []⟩])
  (.cond (.t 17)
   (.seq (.reg [⟨(some 39), .build [(.nil true 1), (.nil true 2)] [], none, 262144, 0, []⟩,
     ⟨none, .store 2 (.t 6) (.t 39), none, 262400, 1, []⟩,
     ⟨(some 7), .mv (.k (.int .i64 2)), none, 262656, 2, []⟩])
   (.ret))
   (.seq (.reg [⟨(some 41), .faddr 1 (.t 3), none, 327680, 0, []⟩,
     ⟨(some 42), .load 1 false (.t 41), none, 327936, 1, []⟩,
     ⟨(some 43), .len false (.t 42), none, 328192, 2, []⟩,
     ⟨(some 44), .mv (.t 2), none, 328448, 3, []⟩,
     ⟨(some 45), .len false (.t 44), none, 328704, 4, []⟩,
     ⟨(some 46), .bin .add (.t 43) (.t 45), none, 328960, 5, []⟩,
     ⟨(some 47), .bin .gtr (.t 46) (.k (.int .i64 600)), none, 329216, 6, []⟩,
     ⟨(some 40), .mv (.t 47), none, 329472, 7, []⟩])
   (.cond (.t 40)
    (.seq (.reg [⟨(some 48), .build [(.nil true 1), (.nil true 2)] [], none, 393216, 0, []⟩,
      ⟨none, .store 2 (.t 6) (.t 48), none, 393472, 1, []⟩,
      ⟨(some 7), .mv (.k (.int .i64 4)), none, 393728, 2, []⟩])
    (.ret))
    (.skip))))))))
 (.seq (.reg [⟨(some 49), .load 2 true (.t 3), none, 458752, 0, []⟩,
   ⟨(some 50), .mv (.t 1), none, 459008, 1, []⟩,
   ⟨(some 51), .mv (.t 2), none, 459264, 2, []⟩,
   ⟨(some 52), .call 43 [(.t 49), (.t 50), (.t 51)] false, none, 459520, 3, []⟩,
   ⟨none, .store 2 (.t 6) (.t 52), none, 459776, 4, []⟩,
   ⟨(some 7), .mv (.k (.int .i64 0)), none, 460032, 5, []⟩])
 (.ret)))⟩
/-- loop.example/g00849/laws.eqStringS -/
def F29 : F := ⟨2, 26, [.t 4],
 .seq (.reg [⟨(some 4), .mv (.k (.bool false)), none, 0, 0, []⟩])
 (.seq (.seq (.reg [⟨(some 6), .mv (.t 0), none, 65536, 0, []⟩,
   ⟨(some 7), .len false (.t 6), none, 65792, 1, []⟩,
   ⟨(some 8), .mv (.t 1), none, 66048, 2, []⟩,
   ⟨(some 9), .len false (.t 8), none, 66304, 3, []⟩,
   ⟨(some 10), .bin .neq (.t 7) (.t 9), none, 66560, 4, []⟩])
 (.cond (.t 10)
  (.seq (.reg [⟨(some 4), .mv (.k (.bool false)), none, 131072, 0, []⟩])
  (.ret))
  (.skip)))
 (.seq (.seq (.reg [⟨(some 5), .mv (.k (.int .i64 0)), none, 196608, 0, []⟩])
 (.block 0 (.loop [0, 1, 5] []
  (.seq (.seq (.reg [⟨(some 11), .mv (.t 5), none, 262144, 0, []⟩,
    ⟨(some 12), .mv (.t 0), none, 262400, 1, []⟩,
    ⟨(some 13), .len false (.t 12), none, 262656, 2, []⟩,
    ⟨(some 14), .bin .lss (.t 11) (.t 13), none, 262912, 3, []⟩])
  (.cond (.t 14)
   (.skip)
   (.exit 0)))
  (.seq (.block 1 (.seq (.reg [⟨(some 17), .mv (.t 0), none, 393216, 0, []⟩,
    ⟨(some 18), .mv (.t 5), none, 393472, 1, []⟩,
    ⟨(some 19), .iaddr 1 (.t 17) (.t 18), none, 393728, 2, []⟩,
    ⟨(some 20), .load 1 false (.t 19), none, 393984, 3, []⟩,
    ⟨(some 21), .mv (.t 1), none, 394240, 4, []⟩,
    ⟨(some 22), .mv (.t 5), none, 394496, 5, []⟩,
    ⟨(some 23), .iaddr 1 (.t 21) (.t 22), none, 394752, 6, []⟩,
    ⟨(some 24), .load 1 false (.t 23), none, 395008, 7, []⟩,
    ⟨(some 25), .bin .neq (.t 20) (.t 24), none, 395264, 8, []⟩])
  (.cond (.t 25)
   (.seq (.reg [⟨(some 4), .mv (.k (.bool false)), none, 458752, 0, []⟩])
   (.ret))
   (.skip))))
  (.reg [⟨(some 15), .mv (.t 5), none, 327680, 0, []⟩,
    ⟨(some 16), .bin .add (.t 15) (.k (.int .i64 1)), none, 327936, 1, []⟩,
    ⟨(some 5), .mv (.t 16), none, 328192, 2, []⟩]))))))
 (.seq (.reg [⟨(some 4), .mv (.k (.bool true)), none, 524288, 0, []⟩])
 (.ret))))⟩
/-- loop.example/g00849/laws.markStringS -/
def F30 : F := ⟨2, 20, [.t 4],
 .seq (.reg [⟨(some 4), .mv (.k (.int .i64 0)), none, 0, 0, []⟩])
 (.seq (.seq (.reg [⟨(some 5), .mv (.k (.int .i64 0)), none, 65536, 0, []⟩])
 (.block 0 (.loop [0, 1, 5] []
  (.seq (.seq (.reg [⟨(some 6), .mv (.t 5), none, 131072, 0, []⟩,
    ⟨(some 7), .mv (.t 0), none, 131328, 1, []⟩,
    ⟨(some 8), .len false (.t 7), none, 131584, 2, []⟩,
    ⟨(some 9), .bin .lss (.t 6) (.t 8), none, 131840, 3, []⟩])
  (.cond (.t 9)
   (.skip)
   (.exit 0)))
  (.seq (.block 1 (.seq (.reg [⟨(some 12), .mv (.t 0), none, 262144, 0, []⟩,
    ⟨(some 13), .mv (.t 5), none, 262400, 1, []⟩,
    ⟨(some 14), .mv (.t 1), none, 262656, 2, []⟩,
    ⟨(some 15), .call 57 [(.t 14)] true, none, 262912, 3, []⟩,
    ⟨(some 16), .iaddr 1 (.t 12) (.t 13), none, 263168, 4, []⟩,
    ⟨none, .store 1 (.t 16) (.t 15), none, 263424, 5, []⟩])
  (.reg [⟨(some 17), .mv (.t 1), none, 327680, 0, []⟩,
    ⟨(some 18), .bin .add (.t 17) (.k (.int .i64 1)), none, 327936, 1, []⟩,
    ⟨(some 1), .mv (.t 18), none, 328192, 2, []⟩])))
  (.reg [⟨(some 10), .mv (.t 5), none, 196608, 0, []⟩,
    ⟨(some 11), .bin .add (.t 10) (.k (.int .i64 1)), none, 196864, 1, []⟩,
    ⟨(some 5), .mv (.t 11), none, 197120, 2, []⟩]))))))
 (.seq (.reg [⟨(some 19), .mv (.t 1), none, 393216, 0, []⟩,
   ⟨(some 4), .mv (.t 19), none, 393472, 1, []⟩])
 (.ret)))⟩
/-- loop.example/g00849/impl.DiskOk -/
def F34 : F := ⟨1, 32, [.t 2],
 .seq (.reg [⟨(some 1), .box (.t 0), none, 0, 0, []⟩,
   ⟨(some 2), .mv (.k (.bool false)), none, 256, 1, []⟩])
 (.seq (.seq (.reg [⟨(some 5), .faddr 0 (.t 1), none, 65536, 0, []⟩,
   ⟨(some 6), .load 1 false (.t 5), none, 65792, 1, []⟩,
   ⟨(some 7), .len false (.t 6), none, 66048, 2, []⟩,
   ⟨(some 8), .call 60 [(.t 7), (.k (.int .i64 1)), (.k (.int .i64 1200))] true, none, 66304, 3, []⟩,
   ⟨(some 9), .not (.t 8), none, 66560, 4, []⟩,
   ⟨(some 10), .mv (.t 9), none, 66816, 5, []⟩,
   ⟨(some 11), .faddr 1 (.t 1), (some (some 10, false)), 67072, 6, []⟩,
   ⟨(some 12), .load 1 false (.t 11), (some (some 10, false)), 67328, 7, []⟩,
   ⟨(some 13), .len false (.t 12), (some (some 10, false)), 67584, 8, []⟩,
   ⟨(some 14), .bin .gtr (.t 13) (.k (.int .i64 600)), (some (some 10, false)), 67840, 9, []⟩,
   ⟨(some 15), .pick (.t 10) (.k (.bool true)) (.t 14), none, 68096, 10, []⟩])
 (.cond (.t 15)
  (.seq (.reg [⟨(some 2), .mv (.k (.bool false)), none, 131072, 0, []⟩])
  (.ret))
  (.skip)))
 (.seq (.seq (.reg [⟨(some 16), .faddr 0 (.t 1), none, 196608, 0, []⟩,
   ⟨(some 17), .load 1 false (.t 16), none, 196864, 1, []⟩,
   ⟨(some 18), .len false (.t 17), none, 197120, 2, []⟩,
   ⟨(some 19), .mv (.k (.int .i64 0)), none, 197376, 3, []⟩])
 (.block 0 (.loop [1, 17, 18, 19] [0, 1, 2, 3, 4, 5]
  (.seq (.reg [⟨(some 20), .bin .lss (.t 19) (.t 18), none, 262144, 0, []⟩])
  (.seq (.cond (.t 20)
   (.skip)
   (.exit 0))
  (.seq (.block 1 (.seq (.reg [⟨(some 21), .iaddr 1 (.t 17) (.t 19), none, 327680, 0, []⟩,
    ⟨(some 22), .load 1 false (.t 21), none, 327936, 1, []⟩,
    ⟨(some 4), .mv (.t 22), none, 328192, 2, []⟩])
  (.seq (.reg [⟨(some 23), .mv (.t 4), none, 393216, 0, []⟩,
    ⟨(some 24), .call 41 [(.t 23)] true, none, 393472, 1, []⟩,
    ⟨(some 25), .not (.t 24), none, 393728, 2, []⟩])
  (.cond (.t 25)
   (.seq (.reg [⟨(some 2), .mv (.k (.bool false)), none, 458752, 0, []⟩])
   (.ret))
   (.skip)))))
  (.reg [⟨(some 26), .bin .add (.t 19) (.k (.int .i64 1)), none, 524288, 0, []⟩,
    ⟨(some 19), .mv (.t 26), none, 524544, 1, []⟩])))))))
 (.seq (.reg [⟨(some 27), .faddr 1 (.t 1), none, 589824, 0, []⟩,
   ⟨(some 28), .load 1 false (.t 27), none, 590080, 1, []⟩,
   ⟨(some 29), .mkf 62 [(.t 1)], none, 590336, 2, []⟩,
   ⟨(some 30), .call 61 [(.t 28), (.t 29)] true, none, 590592, 3, []⟩,
   ⟨(some 31), .not (.t 30), none, 590848, 4, []⟩,
   ⟨(some 2), .mv (.t 31), none, 591104, 5, []⟩])
 (.ret))))⟩
/-- (loop.example/g00849/impl.Disk).rotOk -/
def F35 : F := ⟨4, 22, [.t 8],
 .seq (.reg [⟨(some 4), .box (.t 0), none, 0, 0, []⟩,
   ⟨(some 8), .mv (.k (.bool false)), none, 256, 1, []⟩])
 (.seq (.reg [⟨(some 9), .mv (.t 1), none, 65536, 0, []⟩,
   ⟨(some 10), .faddr 0 (.t 4), none, 65792, 1, []⟩,
   ⟨(some 11), .load 1 false (.t 10), none, 66048, 2, []⟩,
   ⟨(some 12), .len false (.t 11), none, 66304, 3, []⟩,
   ⟨(some 13), .call 42 [(.t 9), (.t 12)] true, none, 66560, 4, []⟩,
   ⟨(some 14), .mv (.t 13), none, 66816, 5, []⟩,
   ⟨(some 15), .mv (.t 2), (some (some 14, true)), 67072, 6, []⟩,
   ⟨(some 16), .call 60 [(.t 15), (.k (.int .i64 0)), (.k (.int .i64 63))] true, (some (some 14, true)), 67328, 7, []⟩,
   ⟨(some 17), .pick (.t 14) (.t 16) (.k (.bool false)), none, 67584, 8, []⟩,
   ⟨(some 18), .mv (.t 17), none, 67840, 9, []⟩,
   ⟨(some 19), .mv (.t 3), (some (some 18, true)), 68096, 10, []⟩,
   ⟨(some 20), .call 60 [(.t 19), (.k (.int .i64 1)), (.k (.int .i64 255))] true, (some (some 18, true)), 68352, 11, []⟩,
   ⟨(some 21), .pick (.t 18) (.t 20) (.k (.bool false)), none, 68608, 12, []⟩,
   ⟨(some 8), .mv (.t 21), none, 68864, 13, []⟩])
 (.ret))⟩
/-- (loop.example/g00849/impl.Disk).rotten -/
def F36 : F := ⟨4, 34, [.cell 8 2 true],
 .seq (.reg [⟨(some 4), .box (.t 0), none, 0, 0, []⟩,
   ⟨(some 8), .alloc [(.nil true 1), (.nil true 2)], none, 256, 1, []⟩])
 (.seq (.reg [⟨(some 11), .load 2 true (.t 4), none, 65536, 0, []⟩,
   ⟨(some 12), .call 63 [(.t 11)] false, none, 65792, 1, []⟩,
   ⟨(some 9), .alloc [(.nil true 1), (.nil true 2)], none, 66048, 2, []⟩,
   ⟨none, .store 2 (.t 9) (.t 12), none, 66304, 3, []⟩])
 (.seq (.reg [⟨(some 13), .faddr 0 (.t 9), none, 131072, 0, []⟩,
   ⟨(some 14), .load 1 false (.t 13), none, 131328, 1, []⟩,
   ⟨(some 15), .mv (.t 1), none, 131584, 2, []⟩,
   ⟨(some 16), .iaddr 1 (.t 14) (.t 15), none, 131840, 3, []⟩,
   ⟨(some 17), .load 1 false (.t 16), none, 132096, 4, []⟩,
   ⟨(some 18), .s2b (.t 17), none, 132352, 5, []⟩,
   ⟨(some 10), .mv (.t 18), none, 132608, 6, []⟩])
 (.seq (.reg [⟨(some 19), .mv (.t 10), none, 196608, 0, []⟩,
   ⟨(some 20), .mv (.t 2), none, 196864, 1, []⟩,
   ⟨(some 21), .iaddr 1 (.t 19) (.t 20), none, 197120, 2, []⟩,
   ⟨(some 22), .load 1 false (.t 21), none, 197376, 3, []⟩,
   ⟨(some 23), .mv (.t 3), none, 197632, 4, []⟩,
   ⟨(some 24), .conv .u8 (.t 23), none, 197888, 5, []⟩,
   ⟨(some 25), .bin .xor (.t 22) (.t 24), none, 198144, 6, []⟩,
   ⟨(some 26), .iaddr 1 (.t 19) (.t 20), none, 198400, 7, []⟩,
   ⟨none, .store 1 (.t 26) (.t 25), none, 198656, 8, []⟩])
 (.seq (.reg [⟨(some 27), .faddr 0 (.t 9), none, 262144, 0, []⟩,
   ⟨(some 28), .load 1 false (.t 27), none, 262400, 1, []⟩,
   ⟨(some 29), .mv (.t 1), none, 262656, 2, []⟩,
   ⟨(some 30), .mv (.t 10), none, 262912, 3, []⟩,
   ⟨(some 31), .b2s (.t 30), none, 263168, 4, []⟩,
   ⟨(some 32), .iaddr 1 (.t 28) (.t 29), none, 263424, 5, []⟩,
   ⟨none, .store 1 (.t 32) (.t 31), none, 263680, 6, []⟩])
 (.seq (.reg [⟨(some 33), .load 2 true (.t 9), none, 327680, 0, []⟩,
   ⟨none, .store 2 (.t 8) (.t 33), none, 327936, 1, []⟩])
 (.ret))))))⟩
/-- loop.example/g00849/spec.l00In -/
def F39 : F := ⟨3, 15, [.t 6],
 .seq (.reg [⟨(some 6), .mv (.k (.bool false)), none, 0, 0, []⟩])
 (.seq (.reg [⟨(some 7), .mv (.t 0), none, 65536, 0, []⟩,
   ⟨(some 8), .mv (.t 1), none, 65792, 1, []⟩,
   ⟨(some 9), .bin .geq (.t 7) (.t 8), none, 66048, 2, []⟩,
   ⟨(some 10), .mv (.t 9), none, 66304, 3, []⟩,
   ⟨(some 11), .mv (.t 0), (some (some 10, true)), 66560, 4, []⟩,
   ⟨(some 12), .mv (.t 2), (some (some 10, true)), 66816, 5, []⟩,
   ⟨(some 13), .bin .leq (.t 11) (.t 12), (some (some 10, true)), 67072, 6, []⟩,
   ⟨(some 14), .pick (.t 10) (.t 13) (.k (.bool false)), none, 67328, 7, []⟩,
   ⟨(some 6), .mv (.t 14), none, 67584, 8, []⟩])
 (.ret))⟩
/-- loop.example/g00849/impl.sectorOk -/
def F41 : F := ⟨1, 6, [.t 2],
 .seq (.reg [⟨(some 2), .mv (.k (.bool false)), none, 0, 0, []⟩])
 (.seq (.reg [⟨(some 3), .mv (.t 0), none, 65536, 0, []⟩,
   ⟨(some 4), .len true (.t 3), none, 65792, 1, []⟩,
   ⟨(some 5), .bin .eql (.t 4) (.k (.int .i64 64)), none, 66048, 2, []⟩,
   ⟨(some 2), .mv (.t 5), none, 66304, 3, []⟩])
 (.ret))⟩
/-- loop.example/g00849/impl.isIndex -/
def F42 : F := ⟨2, 9, [.t 4],
 .seq (.reg [⟨(some 4), .mv (.k (.bool false)), none, 0, 0, []⟩])
 (.seq (.reg [⟨(some 5), .mv (.t 0), none, 65536, 0, []⟩,
   ⟨(some 6), .mv (.t 1), none, 65792, 1, []⟩,
   ⟨(some 7), .bin .sub (.t 6) (.k (.int .i64 1)), none, 66048, 2, []⟩,
   ⟨(some 8), .call 60 [(.t 5), (.k (.int .i64 0)), (.t 7)] true, none, 66304, 3, []⟩,
   ⟨(some 4), .mv (.t 8), none, 66560, 4, []⟩])
 (.ret))⟩
/-- (loop.example/g00849/impl.Disk).writing -/
def F43 : F := ⟨3, 31, [.cell 6 2 true],
 .seq (.reg [⟨(some 3), .box (.t 0), none, 0, 0, []⟩,
   ⟨(some 6), .alloc [(.nil true 1), (.nil true 2)], none, 256, 1, []⟩])
 (.seq (.reg [⟨(some 10), .load 2 true (.t 3), none, 65536, 0, []⟩,
   ⟨(some 11), .call 63 [(.t 10)] false, none, 65792, 1, []⟩,
   ⟨(some 7), .alloc [(.nil true 1), (.nil true 2)], none, 66048, 2, []⟩,
   ⟨none, .store 2 (.t 7) (.t 11), none, 66304, 3, []⟩])
 (.seq (.seq (.reg [⟨(some 12), .mv (.t 2), none, 131072, 0, []⟩,
   ⟨(some 13), .len false (.t 12), none, 131328, 1, []⟩,
   ⟨(some 14), .mv (.k (.int .i64 0)), none, 131584, 2, []⟩])
 (.block 0 (.loop [1, 6, 7, 12, 13, 14] [0, 1, 2, 3, 4, 5, 256, 257, 258, 65792, 65793, 65794, 65795, 66048, 66049, 66050, 66305, 66306, 459009, 459010]
  (.seq (.reg [⟨(some 15), .bin .lss (.t 14) (.t 13), none, 196608, 0, []⟩])
  (.seq (.cond (.t 15)
   (.skip)
   (.exit 0))
  (.seq (.block 1 (.seq (.reg [⟨(some 16), .mv (.t 14), none, 262144, 0, []⟩,
    ⟨(some 17), .iaddr 1 (.t 12) (.t 14), none, 262400, 1, []⟩,
    ⟨(some 18), .load 1 false (.t 17), none, 262656, 2, []⟩,
    ⟨(some 8), .mv (.t 16), none, 262912, 3, []⟩,
    ⟨(some 9), .mv (.t 18), none, 263168, 4, []⟩])
  (.reg [⟨(some 19), .faddr 1 (.t 7), none, 327680, 0, []⟩,
    ⟨(some 20), .load 1 false (.t 19), none, 327936, 1, []⟩,
    ⟨(some 21), .mv (.t 1), none, 328192, 2, []⟩,
    ⟨(some 22), .mv (.t 8), none, 328448, 3, []⟩,
    ⟨(some 23), .bin .add (.t 21) (.t 22), none, 328704, 4, []⟩,
    ⟨(some 24), .mv (.t 9), none, 328960, 5, []⟩,
    ⟨(some 25), .build [(.int .i64 0), (.str ByteArray.empty)] [(0, 1, (.t 23)), (1, 1, (.t 24))], none, 329216, 6, []⟩,
    ⟨(some 26), .bslice true 2 [(.int .i64 0), (.str ByteArray.empty)] 1 [(0, (.t 25))], none, 329472, 7, []⟩,
    ⟨(some 27), .app true 2 24 (.t 20) (.t 26), none, 329728, 8, []⟩,
    ⟨(some 28), .faddr 1 (.t 7), none, 329984, 9, []⟩,
    ⟨none, .store 1 (.t 28) (.t 27), none, 330240, 10, []⟩])))
  (.reg [⟨(some 29), .bin .add (.t 14) (.k (.int .i64 1)), none, 393216, 0, []⟩,
    ⟨(some 14), .mv (.t 29), none, 393472, 1, []⟩])))))))
 (.seq (.reg [⟨(some 30), .load 2 true (.t 7), none, 458752, 0, []⟩,
   ⟨none, .store 2 (.t 6) (.t 30), none, 459008, 1, []⟩])
 (.ret))))⟩
/-- loop.example/g00849/laws.szPendingS -/
def F46 : F := ⟨2, 27, [.t 4],
 .seq (.reg [⟨(some 4), .mv (.k (.int .i64 0)), none, 0, 0, []⟩])
 (.seq (.reg [⟨(some 6), .mv (.t 1), none, 65536, 0, []⟩,
   ⟨(some 7), .mv (.t 0), none, 65792, 1, []⟩,
   ⟨(some 8), .len false (.t 7), none, 66048, 2, []⟩,
   ⟨(some 9), .bin .sub (.t 6) (.t 8), none, 66304, 3, []⟩,
   ⟨(some 1), .mv (.t 9), none, 66560, 4, []⟩])
 (.seq (.seq (.reg [⟨(some 10), .mv (.t 1), none, 131072, 0, []⟩,
   ⟨(some 11), .bin .lss (.t 10) (.k (.int .i64 0)), none, 131328, 1, []⟩])
 (.cond (.t 11)
  (.seq (.reg [⟨(some 4), .mv (.k (.int .i64 (-1))), none, 196608, 0, []⟩])
  (.ret))
  (.skip)))
 (.seq (.seq (.reg [⟨(some 5), .mv (.k (.int .i64 0)), none, 262144, 0, []⟩])
 (.block 0 (.loop [0, 1, 5] []
  (.seq (.seq (.reg [⟨(some 12), .mv (.t 5), none, 327680, 0, []⟩,
    ⟨(some 13), .mv (.t 0), none, 327936, 1, []⟩,
    ⟨(some 14), .len false (.t 13), none, 328192, 2, []⟩,
    ⟨(some 15), .bin .lss (.t 12) (.t 14), none, 328448, 3, []⟩])
  (.cond (.t 15)
   (.skip)
   (.exit 0)))
  (.seq (.block 1 (.seq (.reg [⟨(some 18), .mv (.t 0), none, 458752, 0, []⟩,
    ⟨(some 19), .mv (.t 5), none, 459008, 1, []⟩,
    ⟨(some 20), .iaddr 2 (.t 18) (.t 19), none, 459264, 2, []⟩,
    ⟨(some 21), .load 2 true (.t 20), none, 459520, 3, []⟩,
    ⟨(some 22), .mv (.t 1), none, 459776, 4, []⟩,
    ⟨(some 23), .call 67 [(.t 21), (.t 22)] true, none, 460032, 5, []⟩,
    ⟨(some 1), .mv (.t 23), none, 460288, 6, []⟩])
  (.seq (.reg [⟨(some 24), .mv (.t 1), none, 524288, 0, []⟩,
    ⟨(some 25), .bin .lss (.t 24) (.k (.int .i64 0)), none, 524544, 1, []⟩])
  (.cond (.t 25)
   (.seq (.reg [⟨(some 4), .mv (.k (.int .i64 (-1))), none, 589824, 0, []⟩])
   (.ret))
   (.skip)))))
  (.reg [⟨(some 16), .mv (.t 5), none, 393216, 0, []⟩,
    ⟨(some 17), .bin .add (.t 16) (.k (.int .i64 1)), none, 393472, 1, []⟩,
    ⟨(some 5), .mv (.t 17), none, 393728, 2, []⟩]))))))
 (.seq (.reg [⟨(some 26), .mv (.t 1), none, 655360, 0, []⟩,
   ⟨(some 4), .mv (.t 26), none, 655616, 1, []⟩])
 (.ret)))))⟩
/-- loop.example/g00849/spec.l14Has -/
def F47 : F := ⟨2, 11, [.t 4],
 .seq (.reg [⟨(some 2), .box (.t 0), none, 0, 0, []⟩,
   ⟨(some 4), .mv (.k (.bool false)), none, 256, 1, []⟩])
 (.seq (.reg [⟨(some 5), .mv (.t 1), none, 65536, 0, []⟩,
   ⟨(some 6), .faddr 0 (.t 2), none, 65792, 1, []⟩,
   ⟨(some 7), .load 1 false (.t 6), none, 66048, 2, []⟩,
   ⟨(some 8), .len false (.t 7), none, 66304, 3, []⟩,
   ⟨(some 9), .bin .sub (.t 8) (.k (.int .i64 1)), none, 66560, 4, []⟩,
   ⟨(some 10), .call 39 [(.t 5), (.k (.int .i64 0)), (.t 9)] true, none, 66816, 5, []⟩,
   ⟨(some 4), .mv (.t 10), none, 67072, 6, []⟩])
 (.ret))⟩
/-- loop.example/g00849/spec.l14Own -/
def F48 : F := ⟨1, 12, [.cell 2 2 true],
 .seq (.reg [⟨(some 1), .box (.t 0), none, 0, 0, []⟩,
   ⟨(some 2), .alloc [(.nil true 1), (.nil true 2)], none, 256, 1, []⟩])
 (.seq (.reg [⟨(some 3), .bslice true 1 [(.str ByteArray.empty)] 0 [], none, 65536, 0, [(.t 1)]⟩,
   ⟨(some 4), .faddr 0 (.t 1), none, 65792, 1, []⟩,
   ⟨(some 5), .load 1 false (.t 4), none, 66048, 2, [(.t 1)]⟩,
   ⟨(some 6), .app true 1 16 (.t 3) (.t 5), none, 66304, 3, [(.t 1)]⟩,
   ⟨(some 7), .bslice true 2 [(.int .i64 0), (.str ByteArray.empty)] 0 [], none, 66560, 4, [(.t 1)]⟩,
   ⟨(some 8), .faddr 1 (.t 1), none, 66816, 5, []⟩,
   ⟨(some 9), .load 1 false (.t 8), none, 67072, 6, [(.t 1)]⟩,
   ⟨(some 10), .app true 2 24 (.t 7) (.t 9), none, 67328, 7, []⟩,
   ⟨(some 11), .build [(.nil true 1), (.nil true 2)] [(0, 1, (.t 6)), (1, 1, (.t 10))], none, 67584, 8, []⟩,
   ⟨none, .store 2 (.t 2) (.t 11), none, 67840, 9, []⟩])
 (.ret))⟩
/-- loop.example/g00849/laws.toPendingS -/
def F49 : F := ⟨1, 23, [.t 2],
 .seq (.reg [⟨(some 2), .nil0 true 2, none, 0, 0, []⟩])
 (.seq (.reg [⟨(some 5), .mv (.t 0), none, 65536, 0, []⟩,
   ⟨(some 6), .len false (.t 5), none, 65792, 1, []⟩,
   ⟨(some 7), .mksl true 2 24 [(.int .i64 0), (.str ByteArray.empty)] (.t 6) (.t 6), none, 66048, 2, []⟩,
   ⟨(some 3), .mv (.t 7), none, 66304, 3, []⟩])
 (.seq (.seq (.reg [⟨(some 4), .mv (.k (.int .i64 0)), none, 131072, 0, []⟩])
 (.block 0 (.loop [0, 3, 4] [0, 66048]
  (.seq (.seq (.reg [⟨(some 8), .mv (.t 4), none, 196608, 0, []⟩,
    ⟨(some 9), .mv (.t 0), none, 196864, 1, []⟩,
    ⟨(some 10), .len false (.t 9), none, 197120, 2, []⟩,
    ⟨(some 11), .bin .lss (.t 8) (.t 10), none, 197376, 3, []⟩])
  (.cond (.t 11)
   (.skip)
   (.exit 0)))
  (.seq (.block 1 (.reg [⟨(some 14), .mv (.t 3), none, 327680, 0, []⟩,
    ⟨(some 15), .mv (.t 4), none, 327936, 1, []⟩,
    ⟨(some 16), .mv (.t 0), none, 328192, 2, []⟩,
    ⟨(some 17), .mv (.t 4), none, 328448, 3, []⟩,
    ⟨(some 18), .iaddr 2 (.t 16) (.t 17), none, 328704, 4, []⟩,
    ⟨(some 19), .load 2 true (.t 18), none, 328960, 5, []⟩,
    ⟨(some 20), .call 68 [(.t 19)] true, none, 329216, 6, []⟩,
    ⟨(some 21), .iaddr 2 (.t 14) (.t 15), none, 329472, 7, []⟩,
    ⟨none, .store 2 (.t 21) (.t 20), none, 329728, 8, []⟩]))
  (.reg [⟨(some 12), .mv (.t 4), none, 262144, 0, []⟩,
    ⟨(some 13), .bin .add (.t 12) (.k (.int .i64 1)), none, 262400, 1, []⟩,
    ⟨(some 4), .mv (.t 13), none, 262656, 2, []⟩]))))))
 (.seq (.reg [⟨(some 22), .mv (.t 3), none, 393216, 0, []⟩,
   ⟨(some 2), .mv (.t 22), none, 393472, 1, []⟩])
 (.ret))))⟩
/-- loop.example/g00849/laws.eqPendingS -/
def F50 : F := ⟨2, 27, [.t 4],
 .seq (.reg [⟨(some 4), .mv (.k (.bool false)), none, 0, 0, []⟩])
 (.seq (.seq (.reg [⟨(some 6), .mv (.t 0), none, 65536, 0, []⟩,
   ⟨(some 7), .len false (.t 6), none, 65792, 1, []⟩,
   ⟨(some 8), .mv (.t 1), none, 66048, 2, []⟩,
   ⟨(some 9), .len false (.t 8), none, 66304, 3, []⟩,
   ⟨(some 10), .bin .neq (.t 7) (.t 9), none, 66560, 4, []⟩])
 (.cond (.t 10)
  (.seq (.reg [⟨(some 4), .mv (.k (.bool false)), none, 131072, 0, []⟩])
  (.ret))
  (.skip)))
 (.seq (.seq (.reg [⟨(some 5), .mv (.k (.int .i64 0)), none, 196608, 0, []⟩])
 (.block 0 (.loop [0, 1, 5] []
  (.seq (.seq (.reg [⟨(some 11), .mv (.t 5), none, 262144, 0, []⟩,
    ⟨(some 12), .mv (.t 0), none, 262400, 1, []⟩,
    ⟨(some 13), .len false (.t 12), none, 262656, 2, []⟩,
    ⟨(some 14), .bin .lss (.t 11) (.t 13), none, 262912, 3, []⟩])
  (.cond (.t 14)
   (.skip)
   (.exit 0)))
  (.seq (.block 1 (.seq (.reg [⟨(some 17), .mv (.t 0), none, 393216, 0, []⟩,
    ⟨(some 18), .mv (.t 5), none, 393472, 1, []⟩,
    ⟨(some 19), .iaddr 2 (.t 17) (.t 18), none, 393728, 2, []⟩,
    ⟨(some 20), .load 2 true (.t 19), none, 393984, 3, []⟩,
    ⟨(some 21), .mv (.t 1), none, 394240, 4, []⟩,
    ⟨(some 22), .mv (.t 5), none, 394496, 5, []⟩,
    ⟨(some 23), .iaddr 2 (.t 21) (.t 22), none, 394752, 6, []⟩,
    ⟨(some 24), .load 2 true (.t 23), none, 395008, 7, []⟩,
    ⟨(some 25), .call 69 [(.t 20), (.t 24)] true, none, 395264, 8, []⟩,
    ⟨(some 26), .not (.t 25), none, 395520, 9, []⟩])
  (.cond (.t 26)
   (.seq (.reg [⟨(some 4), .mv (.k (.bool false)), none, 458752, 0, []⟩])
   (.ret))
   (.skip))))
  (.reg [⟨(some 15), .mv (.t 5), none, 327680, 0, []⟩,
    ⟨(some 16), .bin .add (.t 15) (.k (.int .i64 1)), none, 327936, 1, []⟩,
    ⟨(some 5), .mv (.t 16), none, 328192, 2, []⟩]))))))
 (.seq (.reg [⟨(some 4), .mv (.k (.bool true)), none, 524288, 0, []⟩])
 (.ret))))⟩
/-- loop.example/g00849/laws.markPendingS -/
def F51 : F := ⟨2, 28, [.t 4],
 .seq (.reg [⟨(some 4), .mv (.k (.int .i64 0)), none, 0, 0, []⟩])
 (.seq (.seq (.reg [⟨(some 5), .mv (.k (.int .i64 0)), none, 65536, 0, []⟩])
 (.block 0 (.loop [0, 1, 5] []
  (.seq (.seq (.reg [⟨(some 6), .mv (.t 5), none, 131072, 0, []⟩,
    ⟨(some 7), .mv (.t 0), none, 131328, 1, []⟩,
    ⟨(some 8), .len false (.t 7), none, 131584, 2, []⟩,
    ⟨(some 9), .bin .lss (.t 6) (.t 8), none, 131840, 3, []⟩])
  (.cond (.t 9)
   (.skip)
   (.exit 0)))
  (.seq (.block 1 (.seq (.reg [⟨(some 12), .mv (.t 0), none, 262144, 0, []⟩,
    ⟨(some 13), .mv (.t 5), none, 262400, 1, []⟩,
    ⟨(some 14), .mv (.t 1), none, 262656, 2, []⟩,
    ⟨(some 15), .iaddr 2 (.t 12) (.t 13), none, 262912, 3, []⟩,
    ⟨(some 16), .faddr 0 (.t 15), none, 263168, 4, []⟩,
    ⟨none, .store 1 (.t 16) (.t 14), none, 263424, 5, []⟩])
  (.seq (.reg [⟨(some 17), .mv (.t 1), none, 327680, 0, []⟩,
    ⟨(some 18), .bin .add (.t 17) (.k (.int .i64 1)), none, 327936, 1, []⟩,
    ⟨(some 1), .mv (.t 18), none, 328192, 2, []⟩])
  (.seq (.reg [⟨(some 19), .mv (.t 0), none, 393216, 0, []⟩,
    ⟨(some 20), .mv (.t 5), none, 393472, 1, []⟩,
    ⟨(some 21), .mv (.t 1), none, 393728, 2, []⟩,
    ⟨(some 22), .call 57 [(.t 21)] true, none, 393984, 3, []⟩,
    ⟨(some 23), .iaddr 2 (.t 19) (.t 20), none, 394240, 4, []⟩,
    ⟨(some 24), .faddr 1 (.t 23), none, 394496, 5, []⟩,
    ⟨none, .store 1 (.t 24) (.t 22), none, 394752, 6, []⟩])
  (.reg [⟨(some 25), .mv (.t 1), none, 458752, 0, []⟩,
    ⟨(some 26), .bin .add (.t 25) (.k (.int .i64 1)), none, 459008, 1, []⟩,
    ⟨(some 1), .mv (.t 26), none, 459264, 2, []⟩])))))
  (.reg [⟨(some 10), .mv (.t 5), none, 196608, 0, []⟩,
    ⟨(some 11), .bin .add (.t 10) (.k (.int .i64 1)), none, 196864, 1, []⟩,
    ⟨(some 5), .mv (.t 11), none, 197120, 2, []⟩]))))))
 (.seq (.reg [⟨(some 27), .mv (.t 1), none, 524288, 0, []⟩,
   ⟨(some 4), .mv (.t 27), none, 524544, 1, []⟩])
 (.ret)))⟩
/-- loop.example/g00849/laws.heldStringS -/
def F52 : F := ⟨2, 22, [.t 4],
 .seq (.reg [⟨(some 4), .mv (.k (.int .i64 0)), none, 0, 0, []⟩])
 (.seq (.seq (.reg [⟨(some 5), .mv (.k (.int .i64 0)), none, 65536, 0, []⟩])
 (.block 0 (.loop [0, 1, 5] []
  (.seq (.seq (.reg [⟨(some 6), .mv (.t 5), none, 131072, 0, []⟩,
    ⟨(some 7), .mv (.t 0), none, 131328, 1, []⟩,
    ⟨(some 8), .len false (.t 7), none, 131584, 2, []⟩,
    ⟨(some 9), .bin .lss (.t 6) (.t 8), none, 131840, 3, []⟩])
  (.cond (.t 9)
   (.skip)
   (.exit 0)))
  (.seq (.block 1 (.seq (.seq (.reg [⟨(some 12), .mv (.t 0), none, 262144, 0, []⟩,
    ⟨(some 13), .mv (.t 5), none, 262400, 1, []⟩,
    ⟨(some 14), .iaddr 1 (.t 12) (.t 13), none, 262656, 2, []⟩,
    ⟨(some 15), .load 1 false (.t 14), none, 262912, 3, []⟩,
    ⟨(some 16), .mv (.t 1), none, 263168, 4, []⟩,
    ⟨(some 17), .call 57 [(.t 16)] true, none, 263424, 5, []⟩,
    ⟨(some 18), .bin .neq (.t 15) (.t 17), none, 263680, 6, []⟩])
  (.cond (.t 18)
   (.seq (.reg [⟨(some 4), .mv (.k (.int .i64 (-1))), none, 327680, 0, []⟩])
   (.ret))
   (.skip)))
  (.reg [⟨(some 19), .mv (.t 1), none, 393216, 0, []⟩,
    ⟨(some 20), .bin .add (.t 19) (.k (.int .i64 1)), none, 393472, 1, []⟩,
    ⟨(some 1), .mv (.t 20), none, 393728, 2, []⟩])))
  (.reg [⟨(some 10), .mv (.t 5), none, 196608, 0, []⟩,
    ⟨(some 11), .bin .add (.t 10) (.k (.int .i64 1)), none, 196864, 1, []⟩,
    ⟨(some 5), .mv (.t 11), none, 197120, 2, []⟩]))))))
 (.seq (.reg [⟨(some 21), .mv (.t 1), none, 458752, 0, []⟩,
   ⟨(some 4), .mv (.t 21), none, 459008, 1, []⟩])
 (.ret)))⟩
/-- loop.example/g00849/laws.heldPendingS -/
def F53 : F := ⟨2, 32, [.t 4],
 .seq (.reg [⟨(some 4), .mv (.k (.int .i64 0)), none, 0, 0, []⟩])
 (.seq (.seq (.reg [⟨(some 5), .mv (.k (.int .i64 0)), none, 65536, 0, []⟩])
 (.block 0 (.loop [0, 1, 5] []
  (.seq (.seq (.reg [⟨(some 6), .mv (.t 5), none, 131072, 0, []⟩,
    ⟨(some 7), .mv (.t 0), none, 131328, 1, []⟩,
    ⟨(some 8), .len false (.t 7), none, 131584, 2, []⟩,
    ⟨(some 9), .bin .lss (.t 6) (.t 8), none, 131840, 3, []⟩])
  (.cond (.t 9)
   (.skip)
   (.exit 0)))
  (.seq (.block 1 (.seq (.seq (.reg [⟨(some 12), .mv (.t 0), none, 262144, 0, []⟩,
    ⟨(some 13), .mv (.t 5), none, 262400, 1, []⟩,
    ⟨(some 14), .iaddr 2 (.t 12) (.t 13), none, 262656, 2, []⟩,
    ⟨(some 15), .faddr 0 (.t 14), none, 262912, 3, []⟩,
    ⟨(some 16), .load 1 false (.t 15), none, 263168, 4, []⟩,
    ⟨(some 17), .mv (.t 1), none, 263424, 5, []⟩,
    ⟨(some 18), .bin .neq (.t 16) (.t 17), none, 263680, 6, []⟩])
  (.cond (.t 18)
   (.seq (.reg [⟨(some 4), .mv (.k (.int .i64 (-1))), none, 327680, 0, []⟩])
   (.ret))
   (.skip)))
  (.seq (.reg [⟨(some 19), .mv (.t 1), none, 393216, 0, []⟩,
    ⟨(some 20), .bin .add (.t 19) (.k (.int .i64 1)), none, 393472, 1, []⟩,
    ⟨(some 1), .mv (.t 20), none, 393728, 2, []⟩])
  (.seq (.seq (.reg [⟨(some 21), .mv (.t 0), none, 458752, 0, []⟩,
    ⟨(some 22), .mv (.t 5), none, 459008, 1, []⟩,
    ⟨(some 23), .iaddr 2 (.t 21) (.t 22), none, 459264, 2, []⟩,
    ⟨(some 24), .faddr 1 (.t 23), none, 459520, 3, []⟩,
    ⟨(some 25), .load 1 false (.t 24), none, 459776, 4, []⟩,
    ⟨(some 26), .mv (.t 1), none, 460032, 5, []⟩,
    ⟨(some 27), .call 57 [(.t 26)] true, none, 460288, 6, []⟩,
    ⟨(some 28), .bin .neq (.t 25) (.t 27), none, 460544, 7, []⟩])
  (.cond (.t 28)
   (.seq (.reg [⟨(some 4), .mv (.k (.int .i64 (-1))), none, 524288, 0, []⟩])
   (.ret))
   (.skip)))
  (.reg [⟨(some 29), .mv (.t 1), none, 589824, 0, []⟩,
    ⟨(some 30), .bin .add (.t 29) (.k (.int .i64 1)), none, 590080, 1, []⟩,
    ⟨(some 1), .mv (.t 30), none, 590336, 2, []⟩])))))
  (.reg [⟨(some 10), .mv (.t 5), none, 196608, 0, []⟩,
    ⟨(some 11), .bin .add (.t 10) (.k (.int .i64 1)), none, 196864, 1, []⟩,
    ⟨(some 5), .mv (.t 11), none, 197120, 2, []⟩]))))))
 (.seq (.reg [⟨(some 31), .mv (.t 1), none, 655360, 0, []⟩,
   ⟨(some 4), .mv (.t 31), none, 655616, 1, []⟩])
 (.ret)))⟩
/-- loop.example/g00849/spec.l14Turn -/
def F54 : F := ⟨3, 22, [.t 6],
 .seq (.reg [⟨(some 6), .mv (.k (.str ByteArray.empty)), none, 0, 0, []⟩])
 (.seq (.reg [⟨(some 8), .mv (.t 0), none, 65536, 0, []⟩,
   ⟨(some 9), .s2b (.t 8), none, 65792, 1, []⟩,
   ⟨(some 7), .mv (.t 9), none, 66048, 2, []⟩])
 (.seq (.reg [⟨(some 10), .mv (.t 7), none, 131072, 0, []⟩,
   ⟨(some 11), .mv (.t 1), none, 131328, 1, []⟩,
   ⟨(some 12), .mv (.t 7), none, 131584, 2, []⟩,
   ⟨(some 13), .mv (.t 1), none, 131840, 3, []⟩,
   ⟨(some 14), .iaddr 1 (.t 12) (.t 13), none, 132096, 4, []⟩,
   ⟨(some 15), .load 1 false (.t 14), none, 132352, 5, []⟩,
   ⟨(some 16), .mv (.t 2), none, 132608, 6, []⟩,
   ⟨(some 17), .conv .u8 (.t 16), none, 132864, 7, []⟩,
   ⟨(some 18), .bin .xor (.t 15) (.t 17), none, 133120, 8, []⟩,
   ⟨(some 19), .iaddr 1 (.t 10) (.t 11), none, 133376, 9, []⟩,
   ⟨none, .store 1 (.t 19) (.t 18), none, 133632, 10, []⟩])
 (.seq (.reg [⟨(some 20), .mv (.t 7), none, 196608, 0, []⟩,
   ⟨(some 21), .b2s (.t 20), none, 196864, 1, []⟩,
   ⟨(some 6), .mv (.t 21), none, 197120, 2, []⟩])
 (.ret))))⟩
/-- slices.ContainsFunc[[]string,string] -/
def F55 : F := ⟨2, 9, [.t 4],
 .seq (.reg [⟨(some 4), .mv (.k (.bool false)), none, 0, 0, []⟩])
 (.seq (.reg [⟨(some 5), .mv (.t 0), none, 65536, 0, []⟩,
   ⟨(some 6), .mv (.t 1), none, 65792, 1, []⟩,
   ⟨(some 7), .call 70 [(.t 5), (.t 6)] true, none, 66048, 2, []⟩,
   ⟨(some 8), .bin .geq (.t 7) (.k (.int .i64 0)), none, 66304, 3, []⟩,
   ⟨(some 4), .mv (.t 8), none, 66560, 4, []⟩])
 (.ret))⟩
/-- loop.example/g00849/impl.WriteAll$1 -/
def F56 : F := ⟨1, 6, [.t 2],
 .seq (.reg [⟨(some 2), .mv (.k (.bool false)), none, 0, 0, []⟩])
 (.seq (.reg [⟨(some 3), .mv (.t 0), none, 65536, 0, []⟩,
   ⟨(some 4), .call 41 [(.t 3)] true, none, 65792, 1, []⟩,
   ⟨(some 5), .not (.t 4), none, 66048, 2, []⟩,
   ⟨(some 2), .mv (.t 5), none, 66304, 3, []⟩])
 (.ret))⟩
/-- loop.example/g00849/laws.markText -/
def F57 : F := ⟨1, 20, [.t 2],
 .seq (.reg [⟨(some 2), .mv (.k (.str ByteArray.empty)), none, 0, 0, []⟩])
 (.seq (.seq (.reg [⟨(some 4), .mv (.t 0), none, 65536, 0, []⟩,
   ⟨(some 5), .bin .leq (.t 4) (.k (.int .i64 0)), none, 65792, 1, []⟩])
 (.cond (.t 5)
  (.seq (.reg [⟨(some 2), .mv (.k (.str ⟨#[109, 48]⟩)), none, 131072, 0, []⟩])
  (.ret))
  (.skip)))
 (.seq (.reg [⟨(some 3), .mv (.k (.str ByteArray.empty)), none, 196608, 0, []⟩])
 (.seq (.block 0 (.loop [0, 3] []
  (.seq (.seq (.reg [⟨(some 6), .mv (.t 0), none, 262144, 0, []⟩,
    ⟨(some 7), .bin .gtr (.t 6) (.k (.int .i64 0)), none, 262400, 1, []⟩])
  (.cond (.t 7)
   (.skip)
   (.exit 0)))
  (.block 1 (.seq (.reg [⟨(some 8), .mv (.t 0), none, 327680, 0, []⟩,
    ⟨(some 9), .bin .rem (.t 8) (.k (.int .i64 10)), none, 327936, 1, []⟩,
    ⟨(some 10), .bin .add (.k (.int .i64 48)) (.t 9), none, 328192, 2, []⟩,
    ⟨(some 11), .conv .u8 (.t 10), none, 328448, 3, []⟩,
    ⟨(some 12), .bslice true 1 [(.int .u8 0)] 1 [(0, (.t 11))], none, 328704, 4, []⟩,
    ⟨(some 13), .b2s (.t 12), none, 328960, 5, []⟩,
    ⟨(some 14), .mv (.t 3), none, 329216, 6, []⟩,
    ⟨(some 15), .bin .add (.t 13) (.t 14), none, 329472, 7, []⟩,
    ⟨(some 3), .mv (.t 15), none, 329728, 8, []⟩])
  (.reg [⟨(some 16), .mv (.t 0), none, 393216, 0, []⟩,
    ⟨(some 17), .bin .quo (.t 16) (.k (.int .i64 10)), none, 393472, 1, []⟩,
    ⟨(some 0), .mv (.t 17), none, 393728, 2, []⟩]))))))
 (.seq (.reg [⟨(some 18), .mv (.t 3), none, 458752, 0, []⟩,
   ⟨(some 19), .bin .add (.k (.str ⟨#[109]⟩)) (.t 18), none, 459008, 1, []⟩,
   ⟨(some 2), .mv (.t 19), none, 459264, 2, []⟩])
 (.ret)))))⟩
/-- loop.example/g00849/impl.between -/
def F60 : F := ⟨3, 15, [.t 6],
 .seq (.reg [⟨(some 6), .mv (.k (.bool false)), none, 0, 0, []⟩])
 (.seq (.reg [⟨(some 7), .mv (.t 0), none, 65536, 0, []⟩,
   ⟨(some 8), .mv (.t 1), none, 65792, 1, []⟩,
   ⟨(some 9), .bin .geq (.t 7) (.t 8), none, 66048, 2, []⟩,
   ⟨(some 10), .mv (.t 9), none, 66304, 3, []⟩,
   ⟨(some 11), .mv (.t 0), (some (some 10, true)), 66560, 4, []⟩,
   ⟨(some 12), .mv (.t 2), (some (some 10, true)), 66816, 5, []⟩,
   ⟨(some 13), .bin .leq (.t 11) (.t 12), (some (some 10, true)), 67072, 6, []⟩,
   ⟨(some 14), .pick (.t 10) (.t 13) (.k (.bool false)), none, 67328, 7, []⟩,
   ⟨(some 6), .mv (.t 14), none, 67584, 8, []⟩])
 (.ret))⟩
/-- slices.ContainsFunc[[]loop.example/g00849/impl.Pending,loop.example/g00849/impl.Pending] -/
def F61 : F := ⟨2, 9, [.t 4],
 .seq (.reg [⟨(some 4), .mv (.k (.bool false)), none, 0, 0, []⟩])
 (.seq (.reg [⟨(some 5), .mv (.t 0), none, 65536, 0, []⟩,
   ⟨(some 6), .mv (.t 1), none, 65792, 1, []⟩,
   ⟨(some 7), .call 71 [(.t 5), (.t 6)] true, none, 66048, 2, []⟩,
   ⟨(some 8), .bin .geq (.t 7) (.k (.int .i64 0)), none, 66304, 3, []⟩,
   ⟨(some 4), .mv (.t 8), none, 66560, 4, []⟩])
 (.ret))⟩
/-- loop.example/g00849/impl.DiskOk$1 -/
def F62 : F := ⟨2, 17, [.t 3],
 .seq (.reg [⟨(some 2), .box (.t 0), none, 0, 0, []⟩,
   ⟨(some 3), .mv (.k (.bool false)), none, 256, 1, []⟩])
 (.seq (.reg [⟨(some 4), .faddr 0 (.t 2), none, 65536, 0, []⟩,
   ⟨(some 5), .load 1 false (.t 4), none, 65792, 1, []⟩,
   ⟨(some 6), .faddr 0 (.t 1), none, 66048, 2, []⟩,
   ⟨(some 7), .load 1 false (.t 6), none, 66304, 3, []⟩,
   ⟨(some 8), .len false (.t 7), none, 66560, 4, []⟩,
   ⟨(some 9), .call 42 [(.t 5), (.t 8)] true, none, 66816, 5, []⟩,
   ⟨(some 10), .not (.t 9), none, 67072, 6, []⟩,
   ⟨(some 11), .mv (.t 10), none, 67328, 7, []⟩,
   ⟨(some 12), .faddr 1 (.t 2), (some (some 11, false)), 67584, 8, []⟩,
   ⟨(some 13), .load 1 false (.t 12), (some (some 11, false)), 67840, 9, []⟩,
   ⟨(some 14), .call 41 [(.t 13)] true, (some (some 11, false)), 68096, 10, []⟩,
   ⟨(some 15), .not (.t 14), (some (some 11, false)), 68352, 11, []⟩,
   ⟨(some 16), .pick (.t 11) (.k (.bool true)) (.t 15), none, 68608, 12, []⟩,
   ⟨(some 3), .mv (.t 16), none, 68864, 13, []⟩])
 (.ret))⟩
/-- (loop.example/g00849/impl.Disk).clone -/
def F63 : F := ⟨1, 10, [.cell 2 2 true],
 .seq (.reg [⟨(some 1), .box (.t 0), none, 0, 0, []⟩,
   ⟨(some 2), .alloc [(.nil true 1), (.nil true 2)], none, 256, 1, []⟩])
 (.seq (.reg [⟨(some 3), .faddr 0 (.t 1), none, 65536, 0, []⟩,
   ⟨(some 4), .load 1 false (.t 3), none, 65792, 1, []⟩,
   ⟨(some 5), .call 66 [(.t 4)] false, none, 66048, 2, [(.t 1)]⟩,
   ⟨(some 6), .faddr 1 (.t 1), none, 66304, 3, []⟩,
   ⟨(some 7), .load 1 false (.t 6), none, 66560, 4, [(.t 1)]⟩,
   ⟨(some 8), .call 72 [(.t 7)] false, none, 66816, 5, []⟩,
   ⟨(some 9), .build [(.nil true 1), (.nil true 2)] [(0, 1, (.t 5)), (1, 1, (.t 8))], none, 67072, 6, []⟩,
   ⟨none, .store 2 (.t 2) (.t 9), none, 67328, 7, []⟩])
 (.ret))⟩
/-- slices.Clone[[]string,string] -/
def F66 : F := ⟨1, 8, [.t 2],
 .seq (.reg [⟨(some 2), .nil0 true 1, none, 0, 0, []⟩])
 (.seq (.seq (.reg [⟨(some 3), .mv (.t 0), none, 65536, 0, []⟩])
 (.ifnil false 4 (.t 3)
  (.seq (.reg [⟨(some 2), .nil0 true 1, none, 131072, 0, []⟩])
  (.ret))
  (.skip)))
 (.seq (.reg [⟨(some 5), .bslice true 1 [(.str ByteArray.empty)] 0 [], none, 196608, 0, []⟩,
   ⟨(some 6), .mv (.t 0), none, 196864, 1, []⟩,
   ⟨(some 7), .app true 1 16 (.t 5) (.t 6), none, 197120, 2, []⟩,
   ⟨(some 2), .mv (.t 7), none, 197376, 3, []⟩])
 (.ret)))⟩
/-- loop.example/g00849/laws.szPending -/
def F67 : F := ⟨2, 13, [.t 4],
 .seq (.reg [⟨(some 2), .box (.t 0), none, 0, 0, []⟩,
   ⟨(some 4), .mv (.k (.int .i64 0)), none, 256, 1, []⟩])
 (.seq (.reg [⟨(some 5), .mv (.t 1), none, 65536, 0, []⟩,
   ⟨(some 6), .faddr 1 (.t 2), none, 65792, 1, []⟩,
   ⟨(some 7), .load 1 false (.t 6), none, 66048, 2, []⟩,
   ⟨(some 8), .len true (.t 7), none, 66304, 3, []⟩,
   ⟨(some 9), .bin .sub (.t 5) (.t 8), none, 66560, 4, []⟩,
   ⟨(some 1), .mv (.t 9), none, 66816, 5, []⟩])
 (.seq (.seq (.reg [⟨(some 10), .mv (.t 1), none, 131072, 0, []⟩,
   ⟨(some 11), .bin .lss (.t 10) (.k (.int .i64 0)), none, 131328, 1, []⟩])
 (.cond (.t 11)
  (.seq (.reg [⟨(some 4), .mv (.k (.int .i64 (-1))), none, 196608, 0, []⟩])
  (.ret))
  (.skip)))
 (.seq (.reg [⟨(some 12), .mv (.t 1), none, 262144, 0, []⟩,
   ⟨(some 4), .mv (.t 12), none, 262400, 1, []⟩])
 (.ret))))⟩
/-- loop.example/g00849/laws.toPending -/
def F68 : F := ⟨1, 11, [.cell 2 2 true],
 .seq (.reg [⟨(some 1), .box (.t 0), none, 0, 0, []⟩,
   ⟨(some 2), .alloc [(.int .i64 0), (.str ByteArray.empty)], none, 256, 1, []⟩])
 (.seq (.reg [⟨(some 3), .alloc [(.int .i64 0), (.str ByteArray.empty)], none, 65536, 0, []⟩])
 (.seq (.reg [⟨(some 4), .faddr 0 (.t 1), none, 131072, 0, []⟩,
   ⟨(some 5), .load 1 false (.t 4), none, 131328, 1, []⟩,
   ⟨(some 6), .faddr 0 (.t 3), none, 131584, 2, []⟩,
   ⟨none, .store 1 (.t 6) (.t 5), none, 131840, 3, []⟩])
 (.seq (.reg [⟨(some 7), .faddr 1 (.t 1), none, 196608, 0, []⟩,
   ⟨(some 8), .load 1 false (.t 7), none, 196864, 1, []⟩,
   ⟨(some 9), .faddr 1 (.t 3), none, 197120, 2, []⟩,
   ⟨none, .store 1 (.t 9) (.t 8), none, 197376, 3, []⟩])
 (.seq (.reg [⟨(some 10), .load 2 true (.t 3), none, 262144, 0, []⟩,
   ⟨none, .store 2 (.t 2) (.t 10), none, 262400, 1, []⟩])
 (.ret)))))⟩
/-- loop.example/g00849/laws.eqPending -/
def F69 : F := ⟨2, 15, [.t 4],
 .seq (.reg [⟨(some 2), .box (.t 0), none, 0, 0, []⟩,
   ⟨(some 3), .box (.t 1), none, 256, 1, []⟩,
   ⟨(some 4), .mv (.k (.bool false)), none, 512, 2, []⟩])
 (.seq (.seq (.reg [⟨(some 5), .faddr 0 (.t 2), none, 65536, 0, []⟩,
   ⟨(some 6), .load 1 false (.t 5), none, 65792, 1, []⟩,
   ⟨(some 7), .faddr 0 (.t 3), none, 66048, 2, []⟩,
   ⟨(some 8), .load 1 false (.t 7), none, 66304, 3, []⟩,
   ⟨(some 9), .bin .neq (.t 6) (.t 8), none, 66560, 4, []⟩])
 (.cond (.t 9)
  (.seq (.reg [⟨(some 4), .mv (.k (.bool false)), none, 131072, 0, []⟩])
  (.ret))
  (.skip)))
 (.seq (.seq (.reg [⟨(some 10), .faddr 1 (.t 2), none, 196608, 0, []⟩,
   ⟨(some 11), .load 1 false (.t 10), none, 196864, 1, []⟩,
   ⟨(some 12), .faddr 1 (.t 3), none, 197120, 2, []⟩,
   ⟨(some 13), .load 1 false (.t 12), none, 197376, 3, []⟩,
   ⟨(some 14), .bin .neq (.t 11) (.t 13), none, 197632, 4, []⟩])
 (.cond (.t 14)
  (.seq (.reg [⟨(some 4), .mv (.k (.bool false)), none, 262144, 0, []⟩])
  (.ret))
  (.skip)))
 (.seq (.reg [⟨(some 4), .mv (.k (.bool true)), none, 327680, 0, []⟩])
 (.ret))))⟩
/-- slices.IndexFunc[[]string,string] -/
def F70 : F := ⟨2, 19, [.t 4],
 .seq (.reg [⟨(some 4), .mv (.k (.int .i64 0)), none, 0, 0, []⟩])
 (.seq (.seq (.reg [⟨(some 6), .mv (.t 0), none, 65536, 0, []⟩,
   ⟨(some 7), .len false (.t 6), none, 65792, 1, []⟩,
   ⟨(some 8), .mv (.k (.int .i64 0)), none, 66048, 2, []⟩])
 (.block 0 (.loop [0, 1, 7, 8] []
  (.seq (.reg [⟨(some 9), .bin .lss (.t 8) (.t 7), none, 131072, 0, []⟩])
  (.seq (.cond (.t 9)
   (.skip)
   (.exit 0))
  (.seq (.block 1 (.seq (.reg [⟨(some 10), .mv (.t 8), none, 196608, 0, []⟩,
    ⟨(some 5), .mv (.t 10), none, 196864, 1, []⟩])
  (.seq (.reg [⟨(some 11), .mv (.t 1), none, 262144, 0, []⟩,
    ⟨(some 12), .mv (.t 0), none, 262400, 1, []⟩,
    ⟨(some 13), .mv (.t 5), none, 262656, 2, []⟩,
    ⟨(some 14), .iaddr 1 (.t 12) (.t 13), none, 262912, 3, []⟩,
    ⟨(some 15), .load 1 false (.t 14), none, 263168, 4, []⟩,
    ⟨(some 16), .callv (.t 11) [(.t 15)] true, none, 263424, 5, []⟩])
  (.cond (.t 16)
   (.seq (.reg [⟨(some 17), .mv (.t 5), none, 327680, 0, []⟩,
     ⟨(some 4), .mv (.t 17), none, 327936, 1, []⟩])
   (.ret))
   (.skip)))))
  (.reg [⟨(some 18), .bin .add (.t 8) (.k (.int .i64 1)), none, 393216, 0, []⟩,
    ⟨(some 8), .mv (.t 18), none, 393472, 1, []⟩])))))))
 (.seq (.reg [⟨(some 4), .mv (.k (.int .i64 (-1))), none, 458752, 0, []⟩])
 (.ret)))⟩
/-- slices.IndexFunc[[]loop.example/g00849/impl.Pending,loop.example/g00849/impl.Pending] -/
def F71 : F := ⟨2, 19, [.t 4],
 .seq (.reg [⟨(some 4), .mv (.k (.int .i64 0)), none, 0, 0, []⟩])
 (.seq (.seq (.reg [⟨(some 6), .mv (.t 0), none, 65536, 0, []⟩,
   ⟨(some 7), .len false (.t 6), none, 65792, 1, []⟩,
   ⟨(some 8), .mv (.k (.int .i64 0)), none, 66048, 2, []⟩])
 (.block 0 (.loop [0, 1, 7, 8] []
  (.seq (.reg [⟨(some 9), .bin .lss (.t 8) (.t 7), none, 131072, 0, []⟩])
  (.seq (.cond (.t 9)
   (.skip)
   (.exit 0))
  (.seq (.block 1 (.seq (.reg [⟨(some 10), .mv (.t 8), none, 196608, 0, []⟩,
    ⟨(some 5), .mv (.t 10), none, 196864, 1, []⟩])
  (.seq (.reg [⟨(some 11), .mv (.t 1), none, 262144, 0, []⟩,
    ⟨(some 12), .mv (.t 0), none, 262400, 1, []⟩,
    ⟨(some 13), .mv (.t 5), none, 262656, 2, []⟩,
    ⟨(some 14), .iaddr 2 (.t 12) (.t 13), none, 262912, 3, []⟩,
    ⟨(some 15), .load 2 true (.t 14), none, 263168, 4, []⟩,
    ⟨(some 16), .callv (.t 11) [(.t 15)] true, none, 263424, 5, []⟩])
  (.cond (.t 16)
   (.seq (.reg [⟨(some 17), .mv (.t 5), none, 327680, 0, []⟩,
     ⟨(some 4), .mv (.t 17), none, 327936, 1, []⟩])
   (.ret))
   (.skip)))))
  (.reg [⟨(some 18), .bin .add (.t 8) (.k (.int .i64 1)), none, 393216, 0, []⟩,
    ⟨(some 8), .mv (.t 18), none, 393472, 1, []⟩])))))))
 (.seq (.reg [⟨(some 4), .mv (.k (.int .i64 (-1))), none, 458752, 0, []⟩])
 (.ret)))⟩
/-- slices.Clone[[]loop.example/g00849/impl.Pending,loop.example/g00849/impl.Pending] -/
def F72 : F := ⟨1, 8, [.t 2],
 .seq (.reg [⟨(some 2), .nil0 true 2, none, 0, 0, []⟩])
 (.seq (.seq (.reg [⟨(some 3), .mv (.t 0), none, 65536, 0, []⟩])
 (.ifnil false 4 (.t 3)
  (.seq (.reg [⟨(some 2), .nil0 true 2, none, 131072, 0, []⟩])
  (.ret))
  (.skip)))
 (.seq (.reg [⟨(some 5), .bslice true 2 [(.int .i64 0), (.str ByteArray.empty)] 0 [], none, 196608, 0, []⟩,
   ⟨(some 6), .mv (.t 0), none, 196864, 1, []⟩,
   ⟨(some 7), .app true 2 24 (.t 5) (.t 6), none, 197120, 2, []⟩,
   ⟨(some 2), .mv (.t 7), none, 197376, 3, []⟩])
 (.ret)))⟩
def fns : Nat → Option F
  | 5 => some F5
  | 6 => some F6
  | 7 => some F7
  | 10 => some F10
  | 13 => some F13
  | 15 => some F15
  | 18 => some F18
  | 19 => some F19
  | 20 => some F20
  | 21 => some F21
  | 22 => some F22
  | 23 => some F23
  | 24 => some F24
  | 25 => some F25
  | 26 => some F26
  | 27 => some F27
  | 28 => some F28
  | 29 => some F29
  | 30 => some F30
  | 34 => some F34
  | 35 => some F35
  | 36 => some F36
  | 39 => some F39
  | 41 => some F41
  | 42 => some F42
  | 43 => some F43
  | 46 => some F46
  | 47 => some F47
  | 48 => some F48
  | 49 => some F49
  | 50 => some F50
  | 51 => some F51
  | 52 => some F52
  | 53 => some F53
  | 54 => some F54
  | 55 => some F55
  | 56 => some F56
  | 57 => some F57
  | 60 => some F60
  | 61 => some F61
  | 62 => some F62
  | 63 => some F63
  | 66 => some F66
  | 67 => some F67
  | 68 => some F68
  | 69 => some F69
  | 70 => some F70
  | 71 => some F71
  | 72 => some F72
  | _ => none
def code : Prog := ⟨fns, md, fun _ => none⟩
theorem fn5 : code.fn 5 = some F5 := rfl
theorem fn6 : code.fn 6 = some F6 := rfl
theorem fn7 : code.fn 7 = some F7 := rfl
theorem fn10 : code.fn 10 = some F10 := rfl
theorem fn13 : code.fn 13 = some F13 := rfl
theorem fn15 : code.fn 15 = some F15 := rfl
theorem fn18 : code.fn 18 = some F18 := rfl
theorem fn19 : code.fn 19 = some F19 := rfl
theorem fn20 : code.fn 20 = some F20 := rfl
theorem fn21 : code.fn 21 = some F21 := rfl
theorem fn22 : code.fn 22 = some F22 := rfl
theorem fn23 : code.fn 23 = some F23 := rfl
theorem fn24 : code.fn 24 = some F24 := rfl
theorem fn25 : code.fn 25 = some F25 := rfl
theorem fn26 : code.fn 26 = some F26 := rfl
theorem fn27 : code.fn 27 = some F27 := rfl
theorem fn28 : code.fn 28 = some F28 := rfl
theorem fn29 : code.fn 29 = some F29 := rfl
theorem fn30 : code.fn 30 = some F30 := rfl
theorem fn34 : code.fn 34 = some F34 := rfl
theorem fn35 : code.fn 35 = some F35 := rfl
theorem fn36 : code.fn 36 = some F36 := rfl
theorem fn39 : code.fn 39 = some F39 := rfl
theorem fn41 : code.fn 41 = some F41 := rfl
theorem fn42 : code.fn 42 = some F42 := rfl
theorem fn43 : code.fn 43 = some F43 := rfl
theorem fn46 : code.fn 46 = some F46 := rfl
theorem fn47 : code.fn 47 = some F47 := rfl
theorem fn48 : code.fn 48 = some F48 := rfl
theorem fn49 : code.fn 49 = some F49 := rfl
theorem fn50 : code.fn 50 = some F50 := rfl
theorem fn51 : code.fn 51 = some F51 := rfl
theorem fn52 : code.fn 52 = some F52 := rfl
theorem fn53 : code.fn 53 = some F53 := rfl
theorem fn54 : code.fn 54 = some F54 := rfl
theorem fn55 : code.fn 55 = some F55 := rfl
theorem fn56 : code.fn 56 = some F56 := rfl
theorem fn57 : code.fn 57 = some F57 := rfl
theorem fn60 : code.fn 60 = some F60 := rfl
theorem fn61 : code.fn 61 = some F61 := rfl
theorem fn62 : code.fn 62 = some F62 := rfl
theorem fn63 : code.fn 63 = some F63 := rfl
theorem fn66 : code.fn 66 = some F66 := rfl
theorem fn67 : code.fn 67 = some F67 := rfl
theorem fn68 : code.fn 68 = some F68 := rfl
theorem fn69 : code.fn 69 = some F69 := rfl
theorem fn70 : code.fn 70 = some F70 := rfl
theorem fn71 : code.fn 71 = some F71 := rfl
theorem fn72 : code.fn 72 = some F72 := rfl
theorem rcall5 {O : Oracle} {st : St} {Q : Ex → St → Prop} {fs : List Fr} {d : Option Nat} {b i : Nat} {ap : List X} {r : List IOp} (xs : List X) (fl : Bool) : RunO O code.md (⟨d, .call 5 xs fl, none, b, i, ap⟩ :: r) fs st Q = (quietOk st (.call 5 xs fl) ap = true ∧ RunQ O code.md (callVal O st b 5 (evalXs st xs) fl) d r fs st Q) := R_call 5 xs fl rfl
theorem rcall6 {O : Oracle} {st : St} {Q : Ex → St → Prop} {fs : List Fr} {d : Option Nat} {b i : Nat} {ap : List X} {r : List IOp} (xs : List X) (fl : Bool) : RunO O code.md (⟨d, .call 6 xs fl, none, b, i, ap⟩ :: r) fs st Q = (quietOk st (.call 6 xs fl) ap = true ∧ RunQ O code.md (callVal O st b 6 (evalXs st xs) fl) d r fs st Q) := R_call 6 xs fl rfl
theorem rcall7 {O : Oracle} {st : St} {Q : Ex → St → Prop} {fs : List Fr} {d : Option Nat} {b i : Nat} {ap : List X} {r : List IOp} (xs : List X) (fl : Bool) : RunO O code.md (⟨d, .call 7 xs fl, none, b, i, ap⟩ :: r) fs st Q = (quietOk st (.call 7 xs fl) ap = true ∧ RunQ O code.md (callVal O st b 7 (evalXs st xs) fl) d r fs st Q) := R_call 7 xs fl rfl
theorem rcall10 {O : Oracle} {st : St} {Q : Ex → St → Prop} {fs : List Fr} {d : Option Nat} {b i : Nat} {ap : List X} {r : List IOp} (xs : List X) (fl : Bool) : RunO O code.md (⟨d, .call 10 xs fl, none, b, i, ap⟩ :: r) fs st Q = (quietOk st (.call 10 xs fl) ap = true ∧ RunQ O code.md (callVal O st b 10 (evalXs st xs) fl) d r fs st Q) := R_call 10 xs fl rfl
theorem rcall13 {O : Oracle} {st : St} {Q : Ex → St → Prop} {fs : List Fr} {d : Option Nat} {b i : Nat} {ap : List X} {r : List IOp} (xs : List X) (fl : Bool) : RunO O code.md (⟨d, .call 13 xs fl, none, b, i, ap⟩ :: r) fs st Q = (quietOk st (.call 13 xs fl) ap = true ∧ RunQ O code.md (callVal O st b 13 (evalXs st xs) fl) d r fs st Q) := R_call 13 xs fl rfl
theorem rcall15 {O : Oracle} {st : St} {Q : Ex → St → Prop} {fs : List Fr} {d : Option Nat} {b i : Nat} {ap : List X} {r : List IOp} (xs : List X) (fl : Bool) : RunO O code.md (⟨d, .call 15 xs fl, none, b, i, ap⟩ :: r) fs st Q = (quietOk st (.call 15 xs fl) ap = true ∧ RunQ O code.md (callVal O st b 15 (evalXs st xs) fl) d r fs st Q) := R_call 15 xs fl rfl
theorem rcall18 {O : Oracle} {st : St} {Q : Ex → St → Prop} {fs : List Fr} {d : Option Nat} {b i : Nat} {ap : List X} {r : List IOp} (xs : List X) (fl : Bool) : RunO O code.md (⟨d, .call 18 xs fl, none, b, i, ap⟩ :: r) fs st Q = (quietOk st (.call 18 xs fl) ap = true ∧ RunQ O code.md (callVal O st b 18 (evalXs st xs) fl) d r fs st Q) := R_call 18 xs fl rfl
theorem rcall19 {O : Oracle} {st : St} {Q : Ex → St → Prop} {fs : List Fr} {d : Option Nat} {b i : Nat} {ap : List X} {r : List IOp} (xs : List X) (fl : Bool) : RunO O code.md (⟨d, .call 19 xs fl, none, b, i, ap⟩ :: r) fs st Q = (quietOk st (.call 19 xs fl) ap = true ∧ RunQ O code.md (callVal O st b 19 (evalXs st xs) fl) d r fs st Q) := R_call 19 xs fl rfl
theorem rcall20 {O : Oracle} {st : St} {Q : Ex → St → Prop} {fs : List Fr} {d : Option Nat} {b i : Nat} {ap : List X} {r : List IOp} (xs : List X) (fl : Bool) : RunO O code.md (⟨d, .call 20 xs fl, none, b, i, ap⟩ :: r) fs st Q = (quietOk st (.call 20 xs fl) ap = true ∧ RunQ O code.md (callVal O st b 20 (evalXs st xs) fl) d r fs st Q) := R_call 20 xs fl rfl
theorem rcall21 {O : Oracle} {st : St} {Q : Ex → St → Prop} {fs : List Fr} {d : Option Nat} {b i : Nat} {ap : List X} {r : List IOp} (xs : List X) (fl : Bool) : RunO O code.md (⟨d, .call 21 xs fl, none, b, i, ap⟩ :: r) fs st Q = (quietOk st (.call 21 xs fl) ap = true ∧ RunQ O code.md (callVal O st b 21 (evalXs st xs) fl) d r fs st Q) := R_call 21 xs fl rfl
theorem rcall22 {O : Oracle} {st : St} {Q : Ex → St → Prop} {fs : List Fr} {d : Option Nat} {b i : Nat} {ap : List X} {r : List IOp} (xs : List X) (fl : Bool) : RunO O code.md (⟨d, .call 22 xs fl, none, b, i, ap⟩ :: r) fs st Q = ((apartOk st (.call 22 xs fl) ap && keyedOk st ap) = true ∧ RunW O code.md (callRef O st b 22 (evalXs st xs) fl) d r fs Q) := R_callr 22 xs fl rfl
theorem rcall23 {O : Oracle} {st : St} {Q : Ex → St → Prop} {fs : List Fr} {d : Option Nat} {b i : Nat} {ap : List X} {r : List IOp} (xs : List X) (fl : Bool) : RunO O code.md (⟨d, .call 23 xs fl, none, b, i, ap⟩ :: r) fs st Q = (quietOk st (.call 23 xs fl) ap = true ∧ RunQ O code.md (callVal O st b 23 (evalXs st xs) fl) d r fs st Q) := R_call 23 xs fl rfl
theorem rcall24 {O : Oracle} {st : St} {Q : Ex → St → Prop} {fs : List Fr} {d : Option Nat} {b i : Nat} {ap : List X} {r : List IOp} (xs : List X) (fl : Bool) : RunO O code.md (⟨d, .call 24 xs fl, none, b, i, ap⟩ :: r) fs st Q = (quietOk st (.call 24 xs fl) ap = true ∧ RunQ O code.md (callVal O st b 24 (evalXs st xs) fl) d r fs st Q) := R_call 24 xs fl rfl
theorem rcall25 {O : Oracle} {st : St} {Q : Ex → St → Prop} {fs : List Fr} {d : Option Nat} {b i : Nat} {ap : List X} {r : List IOp} (xs : List X) (fl : Bool) : RunO O code.md (⟨d, .call 25 xs fl, none, b, i, ap⟩ :: r) fs st Q = (quietOk st (.call 25 xs fl) ap = true ∧ RunQ O code.md (callVal O st b 25 (evalXs st xs) fl) d r fs st Q) := R_call 25 xs fl rfl
theorem rcall26 {O : Oracle} {st : St} {Q : Ex → St → Prop} {fs : List Fr} {d : Option Nat} {b i : Nat} {ap : List X} {r : List IOp} (xs : List X) (fl : Bool) : RunO O code.md (⟨d, .call 26 xs fl, none, b, i, ap⟩ :: r) fs st Q = (quietOk st (.call 26 xs fl) ap = true ∧ RunQ O code.md (callVal O st b 26 (evalXs st xs) fl) d r fs st Q) := R_call 26 xs fl rfl
theorem rcall27 {O : Oracle} {st : St} {Q : Ex → St → Prop} {fs : List Fr} {d : Option Nat} {b i : Nat} {ap : List X} {r : List IOp} (xs : List X) (fl : Bool) : RunO O code.md (⟨d, .call 27 xs fl, none, b, i, ap⟩ :: r) fs st Q = (quietOk st (.call 27 xs fl) ap = true ∧ RunQ O code.md (callVal O st b 27 (evalXs st xs) fl) d r fs st Q) := R_call 27 xs fl rfl
theorem rcall28 {O : Oracle} {st : St} {Q : Ex → St → Prop} {fs : List Fr} {d : Option Nat} {b i : Nat} {ap : List X} {r : List IOp} (xs : List X) (fl : Bool) : RunO O code.md (⟨d, .call 28 xs fl, none, b, i, ap⟩ :: r) fs st Q = (quietOk st (.call 28 xs fl) ap = true ∧ RunQ O code.md (callVal O st b 28 (evalXs st xs) fl) d r fs st Q) := R_call 28 xs fl rfl
theorem rcall29 {O : Oracle} {st : St} {Q : Ex → St → Prop} {fs : List Fr} {d : Option Nat} {b i : Nat} {ap : List X} {r : List IOp} (xs : List X) (fl : Bool) : RunO O code.md (⟨d, .call 29 xs fl, none, b, i, ap⟩ :: r) fs st Q = (quietOk st (.call 29 xs fl) ap = true ∧ RunQ O code.md (callVal O st b 29 (evalXs st xs) fl) d r fs st Q) := R_call 29 xs fl rfl
theorem rcall30 {O : Oracle} {st : St} {Q : Ex → St → Prop} {fs : List Fr} {d : Option Nat} {b i : Nat} {ap : List X} {r : List IOp} (xs : List X) (fl : Bool) : RunO O code.md (⟨d, .call 30 xs fl, none, b, i, ap⟩ :: r) fs st Q = ((apartOk st (.call 30 xs fl) ap && keyedOk st ap) = true ∧ RunW O code.md (callRef O st b 30 (evalXs st xs) fl) d r fs Q) := R_callr 30 xs fl rfl
theorem rcall34 {O : Oracle} {st : St} {Q : Ex → St → Prop} {fs : List Fr} {d : Option Nat} {b i : Nat} {ap : List X} {r : List IOp} (xs : List X) (fl : Bool) : RunO O code.md (⟨d, .call 34 xs fl, none, b, i, ap⟩ :: r) fs st Q = (quietOk st (.call 34 xs fl) ap = true ∧ RunQ O code.md (callVal O st b 34 (evalXs st xs) fl) d r fs st Q) := R_call 34 xs fl rfl
theorem rcall35 {O : Oracle} {st : St} {Q : Ex → St → Prop} {fs : List Fr} {d : Option Nat} {b i : Nat} {ap : List X} {r : List IOp} (xs : List X) (fl : Bool) : RunO O code.md (⟨d, .call 35 xs fl, none, b, i, ap⟩ :: r) fs st Q = (quietOk st (.call 35 xs fl) ap = true ∧ RunQ O code.md (callVal O st b 35 (evalXs st xs) fl) d r fs st Q) := R_call 35 xs fl rfl
theorem rcall36 {O : Oracle} {st : St} {Q : Ex → St → Prop} {fs : List Fr} {d : Option Nat} {b i : Nat} {ap : List X} {r : List IOp} (xs : List X) (fl : Bool) : RunO O code.md (⟨d, .call 36 xs fl, none, b, i, ap⟩ :: r) fs st Q = (quietOk st (.call 36 xs fl) ap = true ∧ RunQ O code.md (callVal O st b 36 (evalXs st xs) fl) d r fs st Q) := R_call 36 xs fl rfl
theorem rcall39 {O : Oracle} {st : St} {Q : Ex → St → Prop} {fs : List Fr} {d : Option Nat} {b i : Nat} {ap : List X} {r : List IOp} (xs : List X) (fl : Bool) : RunO O code.md (⟨d, .call 39 xs fl, none, b, i, ap⟩ :: r) fs st Q = (quietOk st (.call 39 xs fl) ap = true ∧ RunQ O code.md (callVal O st b 39 (evalXs st xs) fl) d r fs st Q) := R_call 39 xs fl rfl
theorem rcall41 {O : Oracle} {st : St} {Q : Ex → St → Prop} {fs : List Fr} {d : Option Nat} {b i : Nat} {ap : List X} {r : List IOp} (xs : List X) (fl : Bool) : RunO O code.md (⟨d, .call 41 xs fl, none, b, i, ap⟩ :: r) fs st Q = (quietOk st (.call 41 xs fl) ap = true ∧ RunQ O code.md (callVal O st b 41 (evalXs st xs) fl) d r fs st Q) := R_call 41 xs fl rfl
theorem rcall42 {O : Oracle} {st : St} {Q : Ex → St → Prop} {fs : List Fr} {d : Option Nat} {b i : Nat} {ap : List X} {r : List IOp} (xs : List X) (fl : Bool) : RunO O code.md (⟨d, .call 42 xs fl, none, b, i, ap⟩ :: r) fs st Q = (quietOk st (.call 42 xs fl) ap = true ∧ RunQ O code.md (callVal O st b 42 (evalXs st xs) fl) d r fs st Q) := R_call 42 xs fl rfl
theorem rcall43 {O : Oracle} {st : St} {Q : Ex → St → Prop} {fs : List Fr} {d : Option Nat} {b i : Nat} {ap : List X} {r : List IOp} (xs : List X) (fl : Bool) : RunO O code.md (⟨d, .call 43 xs fl, none, b, i, ap⟩ :: r) fs st Q = (quietOk st (.call 43 xs fl) ap = true ∧ RunQ O code.md (callVal O st b 43 (evalXs st xs) fl) d r fs st Q) := R_call 43 xs fl rfl
theorem rcall46 {O : Oracle} {st : St} {Q : Ex → St → Prop} {fs : List Fr} {d : Option Nat} {b i : Nat} {ap : List X} {r : List IOp} (xs : List X) (fl : Bool) : RunO O code.md (⟨d, .call 46 xs fl, none, b, i, ap⟩ :: r) fs st Q = (quietOk st (.call 46 xs fl) ap = true ∧ RunQ O code.md (callVal O st b 46 (evalXs st xs) fl) d r fs st Q) := R_call 46 xs fl rfl
theorem rcall47 {O : Oracle} {st : St} {Q : Ex → St → Prop} {fs : List Fr} {d : Option Nat} {b i : Nat} {ap : List X} {r : List IOp} (xs : List X) (fl : Bool) : RunO O code.md (⟨d, .call 47 xs fl, none, b, i, ap⟩ :: r) fs st Q = (quietOk st (.call 47 xs fl) ap = true ∧ RunQ O code.md (callVal O st b 47 (evalXs st xs) fl) d r fs st Q) := R_call 47 xs fl rfl
theorem rcall48 {O : Oracle} {st : St} {Q : Ex → St → Prop} {fs : List Fr} {d : Option Nat} {b i : Nat} {ap : List X} {r : List IOp} (xs : List X) (fl : Bool) : RunO O code.md (⟨d, .call 48 xs fl, none, b, i, ap⟩ :: r) fs st Q = (quietOk st (.call 48 xs fl) ap = true ∧ RunQ O code.md (callVal O st b 48 (evalXs st xs) fl) d r fs st Q) := R_call 48 xs fl rfl
theorem rcall49 {O : Oracle} {st : St} {Q : Ex → St → Prop} {fs : List Fr} {d : Option Nat} {b i : Nat} {ap : List X} {r : List IOp} (xs : List X) (fl : Bool) : RunO O code.md (⟨d, .call 49 xs fl, none, b, i, ap⟩ :: r) fs st Q = (quietOk st (.call 49 xs fl) ap = true ∧ RunQ O code.md (callVal O st b 49 (evalXs st xs) fl) d r fs st Q) := R_call 49 xs fl rfl
theorem rcall50 {O : Oracle} {st : St} {Q : Ex → St → Prop} {fs : List Fr} {d : Option Nat} {b i : Nat} {ap : List X} {r : List IOp} (xs : List X) (fl : Bool) : RunO O code.md (⟨d, .call 50 xs fl, none, b, i, ap⟩ :: r) fs st Q = (quietOk st (.call 50 xs fl) ap = true ∧ RunQ O code.md (callVal O st b 50 (evalXs st xs) fl) d r fs st Q) := R_call 50 xs fl rfl
theorem rcall51 {O : Oracle} {st : St} {Q : Ex → St → Prop} {fs : List Fr} {d : Option Nat} {b i : Nat} {ap : List X} {r : List IOp} (xs : List X) (fl : Bool) : RunO O code.md (⟨d, .call 51 xs fl, none, b, i, ap⟩ :: r) fs st Q = ((apartOk st (.call 51 xs fl) ap && keyedOk st ap) = true ∧ RunW O code.md (callRef O st b 51 (evalXs st xs) fl) d r fs Q) := R_callr 51 xs fl rfl
theorem rcall52 {O : Oracle} {st : St} {Q : Ex → St → Prop} {fs : List Fr} {d : Option Nat} {b i : Nat} {ap : List X} {r : List IOp} (xs : List X) (fl : Bool) : RunO O code.md (⟨d, .call 52 xs fl, none, b, i, ap⟩ :: r) fs st Q = (quietOk st (.call 52 xs fl) ap = true ∧ RunQ O code.md (callVal O st b 52 (evalXs st xs) fl) d r fs st Q) := R_call 52 xs fl rfl
theorem rcall53 {O : Oracle} {st : St} {Q : Ex → St → Prop} {fs : List Fr} {d : Option Nat} {b i : Nat} {ap : List X} {r : List IOp} (xs : List X) (fl : Bool) : RunO O code.md (⟨d, .call 53 xs fl, none, b, i, ap⟩ :: r) fs st Q = (quietOk st (.call 53 xs fl) ap = true ∧ RunQ O code.md (callVal O st b 53 (evalXs st xs) fl) d r fs st Q) := R_call 53 xs fl rfl
theorem rcall54 {O : Oracle} {st : St} {Q : Ex → St → Prop} {fs : List Fr} {d : Option Nat} {b i : Nat} {ap : List X} {r : List IOp} (xs : List X) (fl : Bool) : RunO O code.md (⟨d, .call 54 xs fl, none, b, i, ap⟩ :: r) fs st Q = (quietOk st (.call 54 xs fl) ap = true ∧ RunQ O code.md (callVal O st b 54 (evalXs st xs) fl) d r fs st Q) := R_call 54 xs fl rfl
theorem rcall55 {O : Oracle} {st : St} {Q : Ex → St → Prop} {fs : List Fr} {d : Option Nat} {b i : Nat} {ap : List X} {r : List IOp} (xs : List X) (fl : Bool) : RunO O code.md (⟨d, .call 55 xs fl, none, b, i, ap⟩ :: r) fs st Q = (quietOk st (.call 55 xs fl) ap = true ∧ RunQ O code.md (callVal O st b 55 (evalXs st xs) fl) d r fs st Q) := R_call 55 xs fl rfl
theorem rcall56 {O : Oracle} {st : St} {Q : Ex → St → Prop} {fs : List Fr} {d : Option Nat} {b i : Nat} {ap : List X} {r : List IOp} (xs : List X) (fl : Bool) : RunO O code.md (⟨d, .call 56 xs fl, none, b, i, ap⟩ :: r) fs st Q = (quietOk st (.call 56 xs fl) ap = true ∧ RunQ O code.md (callVal O st b 56 (evalXs st xs) fl) d r fs st Q) := R_call 56 xs fl rfl
theorem rcall57 {O : Oracle} {st : St} {Q : Ex → St → Prop} {fs : List Fr} {d : Option Nat} {b i : Nat} {ap : List X} {r : List IOp} (xs : List X) (fl : Bool) : RunO O code.md (⟨d, .call 57 xs fl, none, b, i, ap⟩ :: r) fs st Q = (quietOk st (.call 57 xs fl) ap = true ∧ RunQ O code.md (callVal O st b 57 (evalXs st xs) fl) d r fs st Q) := R_call 57 xs fl rfl
theorem rcall60 {O : Oracle} {st : St} {Q : Ex → St → Prop} {fs : List Fr} {d : Option Nat} {b i : Nat} {ap : List X} {r : List IOp} (xs : List X) (fl : Bool) : RunO O code.md (⟨d, .call 60 xs fl, none, b, i, ap⟩ :: r) fs st Q = (quietOk st (.call 60 xs fl) ap = true ∧ RunQ O code.md (callVal O st b 60 (evalXs st xs) fl) d r fs st Q) := R_call 60 xs fl rfl
theorem rcall61 {O : Oracle} {st : St} {Q : Ex → St → Prop} {fs : List Fr} {d : Option Nat} {b i : Nat} {ap : List X} {r : List IOp} (xs : List X) (fl : Bool) : RunO O code.md (⟨d, .call 61 xs fl, none, b, i, ap⟩ :: r) fs st Q = (quietOk st (.call 61 xs fl) ap = true ∧ RunQ O code.md (callVal O st b 61 (evalXs st xs) fl) d r fs st Q) := R_call 61 xs fl rfl
theorem rcall62 {O : Oracle} {st : St} {Q : Ex → St → Prop} {fs : List Fr} {d : Option Nat} {b i : Nat} {ap : List X} {r : List IOp} (xs : List X) (fl : Bool) : RunO O code.md (⟨d, .call 62 xs fl, none, b, i, ap⟩ :: r) fs st Q = (quietOk st (.call 62 xs fl) ap = true ∧ RunQ O code.md (callVal O st b 62 (evalXs st xs) fl) d r fs st Q) := R_call 62 xs fl rfl
theorem rcall63 {O : Oracle} {st : St} {Q : Ex → St → Prop} {fs : List Fr} {d : Option Nat} {b i : Nat} {ap : List X} {r : List IOp} (xs : List X) (fl : Bool) : RunO O code.md (⟨d, .call 63 xs fl, none, b, i, ap⟩ :: r) fs st Q = (quietOk st (.call 63 xs fl) ap = true ∧ RunQ O code.md (callVal O st b 63 (evalXs st xs) fl) d r fs st Q) := R_call 63 xs fl rfl
theorem rcall66 {O : Oracle} {st : St} {Q : Ex → St → Prop} {fs : List Fr} {d : Option Nat} {b i : Nat} {ap : List X} {r : List IOp} (xs : List X) (fl : Bool) : RunO O code.md (⟨d, .call 66 xs fl, none, b, i, ap⟩ :: r) fs st Q = (quietOk st (.call 66 xs fl) ap = true ∧ RunQ O code.md (callVal O st b 66 (evalXs st xs) fl) d r fs st Q) := R_call 66 xs fl rfl
theorem rcall67 {O : Oracle} {st : St} {Q : Ex → St → Prop} {fs : List Fr} {d : Option Nat} {b i : Nat} {ap : List X} {r : List IOp} (xs : List X) (fl : Bool) : RunO O code.md (⟨d, .call 67 xs fl, none, b, i, ap⟩ :: r) fs st Q = (quietOk st (.call 67 xs fl) ap = true ∧ RunQ O code.md (callVal O st b 67 (evalXs st xs) fl) d r fs st Q) := R_call 67 xs fl rfl
theorem rcall68 {O : Oracle} {st : St} {Q : Ex → St → Prop} {fs : List Fr} {d : Option Nat} {b i : Nat} {ap : List X} {r : List IOp} (xs : List X) (fl : Bool) : RunO O code.md (⟨d, .call 68 xs fl, none, b, i, ap⟩ :: r) fs st Q = (quietOk st (.call 68 xs fl) ap = true ∧ RunQ O code.md (callVal O st b 68 (evalXs st xs) fl) d r fs st Q) := R_call 68 xs fl rfl
theorem rcall69 {O : Oracle} {st : St} {Q : Ex → St → Prop} {fs : List Fr} {d : Option Nat} {b i : Nat} {ap : List X} {r : List IOp} (xs : List X) (fl : Bool) : RunO O code.md (⟨d, .call 69 xs fl, none, b, i, ap⟩ :: r) fs st Q = (quietOk st (.call 69 xs fl) ap = true ∧ RunQ O code.md (callVal O st b 69 (evalXs st xs) fl) d r fs st Q) := R_call 69 xs fl rfl
theorem rcall70 {O : Oracle} {st : St} {Q : Ex → St → Prop} {fs : List Fr} {d : Option Nat} {b i : Nat} {ap : List X} {r : List IOp} (xs : List X) (fl : Bool) : RunO O code.md (⟨d, .call 70 xs fl, none, b, i, ap⟩ :: r) fs st Q = (quietOk st (.call 70 xs fl) ap = true ∧ RunQ O code.md (callVal O st b 70 (evalXs st xs) fl) d r fs st Q) := R_call 70 xs fl rfl
theorem rcall71 {O : Oracle} {st : St} {Q : Ex → St → Prop} {fs : List Fr} {d : Option Nat} {b i : Nat} {ap : List X} {r : List IOp} (xs : List X) (fl : Bool) : RunO O code.md (⟨d, .call 71 xs fl, none, b, i, ap⟩ :: r) fs st Q = (quietOk st (.call 71 xs fl) ap = true ∧ RunQ O code.md (callVal O st b 71 (evalXs st xs) fl) d r fs st Q) := R_call 71 xs fl rfl
theorem rcall72 {O : Oracle} {st : St} {Q : Ex → St → Prop} {fs : List Fr} {d : Option Nat} {b i : Nat} {ap : List X} {r : List IOp} (xs : List X) (fl : Bool) : RunO O code.md (⟨d, .call 72 xs fl, none, b, i, ap⟩ :: r) fs st Q = (quietOk st (.call 72 xs fl) ap = true ∧ RunQ O code.md (callVal O st b 72 (evalXs st xs) fl) d r fs st Q) := R_call 72 xs fl rfl
end Go.Ae.R3
