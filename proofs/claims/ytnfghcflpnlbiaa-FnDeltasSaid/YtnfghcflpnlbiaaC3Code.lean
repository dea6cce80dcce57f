/- The code of the functions, for the evaluator. -/
import Derived.Test.YtnfghcflpnlbiaaAeL6
import Derived.Test.YtnfghcflpnlbiaaC0N
namespace Go.Ae.C3

def md : Nat → Mode
  | 44 => .ref
  | 61 => .ref
  | 83 => .ref
  | 93 => .ref
  | 122 => .ref
  | 134 => .ref
  | 148 => .ref
  | 155 => .view
  | _ => .val
/-- loop.example/g00849/laws.FnExactDeltasOf -/
def F13 : F := ⟨3, 109, [.t 6],
 .seq (.reg [⟨(some 3), .box (.t 0), none, 0, 0, []⟩,
   ⟨(some 6), .mv (.k (.bool false)), none, 256, 1, []⟩])
 (.seq (.seq (.reg [⟨(some 18), .mv (.t 2), none, 65536, 0, []⟩,
   ⟨(some 19), .len true (.t 18), none, 65792, 1, []⟩,
   ⟨(some 20), .bin .gtr (.t 19) (.k (.int .i64 1048576)), none, 66048, 2, []⟩])
 (.cond (.t 20)
  (.seq (.reg [⟨(some 6), .mv (.k (.bool true)), none, 131072, 0, []⟩])
  (.ret))
  (.skip)))
 (.seq (.reg [⟨(some 7), .mv (.k (.int .i64 1048576)), none, 196608, 0, []⟩])
 (.seq (.reg [⟨(some 21), .load 5 true (.t 3), none, 262144, 0, []⟩,
   ⟨(some 22), .mv (.t 7), none, 262400, 1, []⟩,
   ⟨(some 23), .call 52 [(.t 21), (.t 22)] true, none, 262656, 2, []⟩,
   ⟨(some 7), .mv (.t 23), none, 262912, 3, []⟩])
 (.seq (.seq (.reg [⟨(some 24), .mv (.t 7), none, 327680, 0, []⟩,
   ⟨(some 25), .bin .lss (.t 24) (.k (.int .i64 0)), none, 327936, 1, []⟩])
 (.cond (.t 25)
  (.seq (.reg [⟨(some 6), .mv (.k (.bool true)), none, 393216, 0, []⟩])
  (.ret))
  (.skip)))
 (.seq (.reg [⟨(some 27), .load 5 true (.t 3), none, 458752, 0, []⟩,
   ⟨(some 28), .call 54 [(.t 27)] false, none, 459008, 1, []⟩,
   ⟨(some 29), .mv (.t 1), none, 459264, 2, []⟩,
   ⟨(some 30), .mv (.t 2), none, 459520, 3, []⟩,
   ⟨(some 31), .call 58 [(.t 28), (.t 29), (.t 30)] false, none, 459776, 4, []⟩,
   ⟨(some 26), .mv (.t 31), none, 460032, 5, []⟩,
   ⟨(some 32), .ext (.t 26) 0, none, 460288, 6, []⟩,
   ⟨(some 33), .ext (.t 26) 1, none, 460544, 7, []⟩,
   ⟨(some 8), .mv (.t 32), none, 460800, 8, []⟩,
   ⟨(some 9), .mv (.t 33), none, 461056, 9, []⟩])
 (.seq (.reg [⟨(some 34), .load 5 true (.t 3), none, 524288, 0, []⟩,
   ⟨(some 35), .call 54 [(.t 34)] false, none, 524544, 1, []⟩,
   ⟨(some 10), .alloc [(.int .i64 0), (.int .i64 0), (.int .i64 0), (.int .i64 0), (.nil true 1)], none, 524800, 2, []⟩,
   ⟨none, .store 5 (.t 10) (.t 35), none, 525056, 3, []⟩])
 (.seq (.reg [⟨(some 37), .load 5 true (.t 10), none, 589824, 0, []⟩,
   ⟨(some 38), .mv (.t 1), none, 590080, 1, []⟩,
   ⟨(some 39), .mv (.t 2), none, 590336, 2, []⟩,
   ⟨(some 40), .call 59 [(.t 37), (.t 38), (.t 39)] false, none, 590592, 3, []⟩,
   ⟨(some 36), .mv (.t 40), none, 590848, 4, []⟩,
   ⟨(some 41), .ext (.t 36) 0, none, 591104, 5, []⟩,
   ⟨(some 42), .ext (.t 36) 1, none, 591360, 6, []⟩,
   ⟨(some 11), .mv (.t 41), none, 591616, 7, []⟩,
   ⟨(some 12), .mv (.t 42), none, 591872, 8, []⟩])
 (.seq (.seq (.reg [⟨(some 43), .mv (.t 11), none, 655360, 0, []⟩,
   ⟨(some 44), .mv (.t 8), none, 655616, 1, []⟩,
   ⟨(some 45), .call 60 [(.t 43), (.t 44)] true, none, 655872, 2, []⟩,
   ⟨(some 46), .not (.t 45), none, 656128, 3, []⟩,
   ⟨(some 47), .mv (.t 46), none, 656384, 4, []⟩,
   ⟨(some 48), .mv (.t 12), (some (some 47, false)), 656640, 5, []⟩,
   ⟨(some 49), .mv (.t 9), (some (some 47, false)), 656896, 6, []⟩,
   ⟨(some 50), .bin .neq (.t 48) (.t 49), (some (some 47, false)), 657152, 7, []⟩,
   ⟨(some 51), .pick (.t 47) (.k (.bool true)) (.t 50), none, 657408, 8, []⟩])
 (.cond (.t 51)
  (.seq (.reg [⟨(some 6), .mv (.k (.bool false)), none, 720896, 0, []⟩])
  (.ret))
  (.skip)))
 (.seq (.seq (.reg [⟨(some 52), .load 5 true (.t 10), none, 786432, 0, []⟩,
   ⟨(some 53), .load 5 true (.t 3), none, 786688, 1, []⟩,
   ⟨(some 54), .call 54 [(.t 53)] false, none, 786944, 2, []⟩,
   ⟨(some 55), .call 43 [(.t 52), (.t 54)] true, none, 787200, 3, []⟩,
   ⟨(some 56), .not (.t 55), none, 787456, 4, []⟩])
 (.cond (.t 56)
  (.seq (.reg [⟨(some 6), .mv (.k (.bool false)), none, 851968, 0, []⟩])
  (.ret))
  (.skip)))
 (.seq (.reg [⟨(some 13), .mv (.k (.int .i64 1)), none, 917504, 0, []⟩])
 (.seq (.reg [⟨(some 57), .load 5 true (.t 10), none, 983040, 0, []⟩,
   ⟨(some 58), .mv (.t 13), none, 983296, 1, []⟩,
   ⟨(some 59), .call 44 [(.t 57), (.t 58)] true, none, 983552, 2, []⟩,
   ⟨(some 13), .mv (.t 59), none, 983808, 3, []⟩])
 (.seq (.seq (.reg [⟨(some 60), .mv (.t 13), none, 1048576, 0, []⟩,
   ⟨(some 61), .bin .lss (.t 60) (.k (.int .i64 0)), none, 1048832, 1, []⟩,
   ⟨(some 62), .mv (.t 61), none, 1049088, 2, []⟩,
   ⟨(some 63), .mv (.t 11), (some (some 62, false)), 1049344, 3, []⟩,
   ⟨(some 64), .mv (.t 8), (some (some 62, false)), 1049600, 4, []⟩,
   ⟨(some 65), .call 60 [(.t 63), (.t 64)] true, (some (some 62, false)), 1049856, 5, []⟩,
   ⟨(some 66), .not (.t 65), (some (some 62, false)), 1050112, 6, []⟩,
   ⟨(some 67), .pick (.t 62) (.k (.bool true)) (.t 66), none, 1050368, 7, []⟩,
   ⟨(some 68), .mv (.t 67), none, 1050624, 8, []⟩,
   ⟨(some 69), .mv (.t 12), (some (some 68, false)), 1050880, 9, []⟩,
   ⟨(some 70), .mv (.t 9), (some (some 68, false)), 1051136, 10, []⟩,
   ⟨(some 71), .bin .neq (.t 69) (.t 70), (some (some 68, false)), 1051392, 11, []⟩,
   ⟨(some 72), .pick (.t 68) (.k (.bool true)) (.t 71), none, 1051648, 12, []⟩])
 (.cond (.t 72)
  (.seq (.reg [⟨(some 6), .mv (.k (.bool false)), none, 1114112, 0, []⟩])
  (.ret))
  (.skip)))
 (.seq (.reg [⟨(some 14), .mv (.k (.int .i64 1)), none, 1179648, 0, []⟩])
 (.seq (.reg [⟨(some 73), .mv (.t 11), none, 1245184, 0, []⟩,
   ⟨(some 74), .mv (.t 14), none, 1245440, 1, []⟩,
   ⟨(some 75), .call 61 [(.t 73), (.t 74)] true, none, 1245696, 2, []⟩,
   ⟨(some 14), .mv (.t 75), none, 1245952, 3, []⟩])
 (.seq (.reg [⟨(some 15), .mv (.k (.int .i64 1)), none, 1310720, 0, []⟩])
 (.seq (.reg [⟨(some 76), .mv (.t 11), none, 1376256, 0, []⟩,
   ⟨(some 77), .mv (.t 15), none, 1376512, 1, []⟩,
   ⟨(some 78), .call 62 [(.t 76), (.t 77)] true, none, 1376768, 2, []⟩,
   ⟨(some 15), .mv (.t 78), none, 1377024, 3, []⟩])
 (.seq (.seq (.reg [⟨(some 79), .mv (.t 15), none, 1441792, 0, []⟩,
   ⟨(some 80), .bin .lss (.t 79) (.k (.int .i64 0)), none, 1442048, 1, []⟩])
 (.cond (.t 80)
  (.seq (.reg [⟨(some 6), .mv (.k (.bool false)), none, 1507328, 0, []⟩])
  (.ret))
  (.skip)))
 (.seq (.seq (.reg [⟨(some 81), .mv (.t 15), none, 1572864, 0, []⟩,
   ⟨(some 82), .mv (.t 14), none, 1573120, 1, []⟩,
   ⟨(some 83), .bin .neq (.t 81) (.t 82), none, 1573376, 2, []⟩])
 (.cond (.t 83)
  (.seq (.reg [⟨(some 6), .mv (.k (.bool false)), none, 1638400, 0, []⟩])
  (.ret))
  (.skip)))
 (.seq (.reg [⟨(some 85), .load 5 true (.t 3), none, 1703936, 0, []⟩,
   ⟨(some 86), .call 54 [(.t 85)] false, none, 1704192, 1, []⟩,
   ⟨(some 87), .mv (.t 1), none, 1704448, 2, []⟩,
   ⟨(some 88), .mv (.t 2), none, 1704704, 3, []⟩,
   ⟨(some 89), .call 59 [(.t 86), (.t 87), (.t 88)] false, none, 1704960, 4, []⟩,
   ⟨(some 84), .mv (.t 89), none, 1705216, 5, []⟩,
   ⟨(some 90), .ext (.t 84) 0, none, 1705472, 6, []⟩,
   ⟨(some 91), .ext (.t 84) 1, none, 1705728, 7, []⟩,
   ⟨(some 16), .mv (.t 90), none, 1705984, 8, []⟩,
   ⟨(some 17), .mv (.t 91), none, 1706240, 9, []⟩])
 (.seq (.seq (.reg [⟨(some 92), .mv (.t 16), none, 1769472, 0, []⟩,
   ⟨(some 93), .mv (.t 8), none, 1769728, 1, []⟩,
   ⟨(some 94), .call 60 [(.t 92), (.t 93)] true, none, 1769984, 2, []⟩,
   ⟨(some 95), .not (.t 94), none, 1770240, 3, []⟩,
   ⟨(some 96), .mv (.t 95), none, 1770496, 4, []⟩,
   ⟨(some 97), .mv (.t 17), (some (some 96, false)), 1770752, 5, []⟩,
   ⟨(some 98), .mv (.t 9), (some (some 96, false)), 1771008, 6, []⟩,
   ⟨(some 99), .bin .neq (.t 97) (.t 98), (some (some 96, false)), 1771264, 7, []⟩,
   ⟨(some 100), .pick (.t 96) (.k (.bool true)) (.t 99), none, 1771520, 8, []⟩])
 (.cond (.t 100)
  (.seq (.reg [⟨(some 6), .mv (.k (.bool false)), none, 1835008, 0, []⟩])
  (.ret))
  (.skip)))
 (.seq (.reg [⟨(some 15), .mv (.k (.int .i64 1)), none, 1900544, 0, []⟩])
 (.seq (.reg [⟨(some 101), .mv (.t 11), none, 1966080, 0, []⟩,
   ⟨(some 102), .mv (.t 15), none, 1966336, 1, []⟩,
   ⟨(some 103), .call 62 [(.t 101), (.t 102)] true, none, 1966592, 2, []⟩,
   ⟨(some 15), .mv (.t 103), none, 1966848, 3, []⟩])
 (.seq (.seq (.reg [⟨(some 104), .mv (.t 15), none, 2031616, 0, []⟩,
   ⟨(some 105), .bin .lss (.t 104) (.k (.int .i64 0)), none, 2031872, 1, []⟩])
 (.cond (.t 105)
  (.seq (.reg [⟨(some 6), .mv (.k (.bool false)), none, 2097152, 0, []⟩])
  (.ret))
  (.skip)))
 (.seq (.seq (.reg [⟨(some 106), .mv (.t 15), none, 2162688, 0, []⟩,
   ⟨(some 107), .mv (.t 14), none, 2162944, 1, []⟩,
   ⟨(some 108), .bin .neq (.t 106) (.t 107), none, 2163200, 2, []⟩])
 (.cond (.t 108)
  (.seq (.reg [⟨(some 6), .mv (.k (.bool false)), none, 2228224, 0, []⟩])
  (.ret))
  (.skip)))
 (.seq (.reg [⟨(some 6), .mv (.k (.bool true)), none, 2293760, 0, []⟩])
 (.ret))))))))))))))))))))))))))⟩
/-- loop.example/g00849/laws.FnExactWriteWide -/
def F14 : F := ⟨3, 109, [.t 6],
 .seq (.reg [⟨(some 3), .box (.t 0), none, 0, 0, []⟩,
   ⟨(some 6), .mv (.k (.bool false)), none, 256, 1, []⟩])
 (.seq (.seq (.reg [⟨(some 18), .mv (.t 2), none, 65536, 0, []⟩,
   ⟨(some 19), .len true (.t 18), none, 65792, 1, []⟩,
   ⟨(some 20), .bin .gtr (.t 19) (.k (.int .i64 1048576)), none, 66048, 2, []⟩])
 (.cond (.t 20)
  (.seq (.reg [⟨(some 6), .mv (.k (.bool true)), none, 131072, 0, []⟩])
  (.ret))
  (.skip)))
 (.seq (.reg [⟨(some 7), .mv (.k (.int .i64 1048576)), none, 196608, 0, []⟩])
 (.seq (.reg [⟨(some 21), .load 5 true (.t 3), none, 262144, 0, []⟩,
   ⟨(some 22), .mv (.t 7), none, 262400, 1, []⟩,
   ⟨(some 23), .call 52 [(.t 21), (.t 22)] true, none, 262656, 2, []⟩,
   ⟨(some 7), .mv (.t 23), none, 262912, 3, []⟩])
 (.seq (.seq (.reg [⟨(some 24), .mv (.t 7), none, 327680, 0, []⟩,
   ⟨(some 25), .bin .lss (.t 24) (.k (.int .i64 0)), none, 327936, 1, []⟩])
 (.cond (.t 25)
  (.seq (.reg [⟨(some 6), .mv (.k (.bool true)), none, 393216, 0, []⟩])
  (.ret))
  (.skip)))
 (.seq (.reg [⟨(some 27), .load 5 true (.t 3), none, 458752, 0, []⟩,
   ⟨(some 28), .call 54 [(.t 27)] false, none, 459008, 1, []⟩,
   ⟨(some 29), .mv (.t 1), none, 459264, 2, []⟩,
   ⟨(some 30), .mv (.t 2), none, 459520, 3, []⟩,
   ⟨(some 31), .call 63 [(.t 28), (.t 29), (.t 30)] false, none, 459776, 4, []⟩,
   ⟨(some 26), .mv (.t 31), none, 460032, 5, []⟩,
   ⟨(some 32), .ext (.t 26) 0, none, 460288, 6, []⟩,
   ⟨(some 33), .ext (.t 26) 1, none, 460544, 7, []⟩,
   ⟨(some 8), .alloc [(.int .i64 0), (.int .i64 0), (.int .i64 0), (.int .i64 0), (.nil true 1)], none, 460800, 8, []⟩,
   ⟨none, .store 5 (.t 8) (.t 32), none, 461056, 9, []⟩,
   ⟨(some 9), .mv (.t 33), none, 461312, 10, []⟩])
 (.seq (.reg [⟨(some 34), .load 5 true (.t 3), none, 524288, 0, []⟩,
   ⟨(some 35), .call 54 [(.t 34)] false, none, 524544, 1, []⟩,
   ⟨(some 10), .alloc [(.int .i64 0), (.int .i64 0), (.int .i64 0), (.int .i64 0), (.nil true 1)], none, 524800, 2, []⟩,
   ⟨none, .store 5 (.t 10) (.t 35), none, 525056, 3, []⟩])
 (.seq (.reg [⟨(some 37), .load 5 true (.t 10), none, 589824, 0, []⟩,
   ⟨(some 38), .mv (.t 1), none, 590080, 1, []⟩,
   ⟨(some 39), .mv (.t 2), none, 590336, 2, []⟩,
   ⟨(some 40), .call 64 [(.t 37), (.t 38), (.t 39)] false, none, 590592, 3, []⟩,
   ⟨(some 36), .mv (.t 40), none, 590848, 4, []⟩,
   ⟨(some 41), .ext (.t 36) 0, none, 591104, 5, []⟩,
   ⟨(some 42), .ext (.t 36) 1, none, 591360, 6, []⟩,
   ⟨(some 11), .alloc [(.int .i64 0), (.int .i64 0), (.int .i64 0), (.int .i64 0), (.nil true 1)], none, 591616, 7, []⟩,
   ⟨none, .store 5 (.t 11) (.t 41), none, 591872, 8, []⟩,
   ⟨(some 12), .mv (.t 42), none, 592128, 9, []⟩])
 (.seq (.seq (.reg [⟨(some 43), .load 5 true (.t 11), none, 655360, 0, []⟩,
   ⟨(some 44), .load 5 true (.t 8), none, 655616, 1, []⟩,
   ⟨(some 45), .call 43 [(.t 43), (.t 44)] true, none, 655872, 2, []⟩,
   ⟨(some 46), .not (.t 45), none, 656128, 3, []⟩,
   ⟨(some 47), .mv (.t 46), none, 656384, 4, []⟩,
   ⟨(some 48), .mv (.t 12), (some (some 47, false)), 656640, 5, []⟩,
   ⟨(some 49), .mv (.t 9), (some (some 47, false)), 656896, 6, []⟩,
   ⟨(some 50), .bin .neq (.t 48) (.t 49), (some (some 47, false)), 657152, 7, []⟩,
   ⟨(some 51), .pick (.t 47) (.k (.bool true)) (.t 50), none, 657408, 8, []⟩])
 (.cond (.t 51)
  (.seq (.reg [⟨(some 6), .mv (.k (.bool false)), none, 720896, 0, []⟩])
  (.ret))
  (.skip)))
 (.seq (.seq (.reg [⟨(some 52), .load 5 true (.t 10), none, 786432, 0, []⟩,
   ⟨(some 53), .load 5 true (.t 3), none, 786688, 1, []⟩,
   ⟨(some 54), .call 54 [(.t 53)] false, none, 786944, 2, []⟩,
   ⟨(some 55), .call 43 [(.t 52), (.t 54)] true, none, 787200, 3, []⟩,
   ⟨(some 56), .not (.t 55), none, 787456, 4, []⟩])
 (.cond (.t 56)
  (.seq (.reg [⟨(some 6), .mv (.k (.bool false)), none, 851968, 0, []⟩])
  (.ret))
  (.skip)))
 (.seq (.reg [⟨(some 13), .mv (.k (.int .i64 1)), none, 917504, 0, []⟩])
 (.seq (.reg [⟨(some 57), .load 5 true (.t 10), none, 983040, 0, []⟩,
   ⟨(some 58), .mv (.t 13), none, 983296, 1, []⟩,
   ⟨(some 59), .call 44 [(.t 57), (.t 58)] true, none, 983552, 2, []⟩,
   ⟨(some 13), .mv (.t 59), none, 983808, 3, []⟩])
 (.seq (.seq (.reg [⟨(some 60), .mv (.t 13), none, 1048576, 0, []⟩,
   ⟨(some 61), .bin .lss (.t 60) (.k (.int .i64 0)), none, 1048832, 1, []⟩,
   ⟨(some 62), .mv (.t 61), none, 1049088, 2, []⟩,
   ⟨(some 63), .load 5 true (.t 11), (some (some 62, false)), 1049344, 3, []⟩,
   ⟨(some 64), .load 5 true (.t 8), (some (some 62, false)), 1049600, 4, []⟩,
   ⟨(some 65), .call 43 [(.t 63), (.t 64)] true, (some (some 62, false)), 1049856, 5, []⟩,
   ⟨(some 66), .not (.t 65), (some (some 62, false)), 1050112, 6, []⟩,
   ⟨(some 67), .pick (.t 62) (.k (.bool true)) (.t 66), none, 1050368, 7, []⟩,
   ⟨(some 68), .mv (.t 67), none, 1050624, 8, []⟩,
   ⟨(some 69), .mv (.t 12), (some (some 68, false)), 1050880, 9, []⟩,
   ⟨(some 70), .mv (.t 9), (some (some 68, false)), 1051136, 10, []⟩,
   ⟨(some 71), .bin .neq (.t 69) (.t 70), (some (some 68, false)), 1051392, 11, []⟩,
   ⟨(some 72), .pick (.t 68) (.k (.bool true)) (.t 71), none, 1051648, 12, []⟩])
 (.cond (.t 72)
  (.seq (.reg [⟨(some 6), .mv (.k (.bool false)), none, 1114112, 0, []⟩])
  (.ret))
  (.skip)))
 (.seq (.reg [⟨(some 14), .mv (.k (.int .i64 1)), none, 1179648, 0, []⟩])
 (.seq (.reg [⟨(some 73), .load 5 true (.t 11), none, 1245184, 0, []⟩,
   ⟨(some 74), .mv (.t 14), none, 1245440, 1, []⟩,
   ⟨(some 75), .call 44 [(.t 73), (.t 74)] true, none, 1245696, 2, []⟩,
   ⟨(some 14), .mv (.t 75), none, 1245952, 3, []⟩])
 (.seq (.reg [⟨(some 15), .mv (.k (.int .i64 1)), none, 1310720, 0, []⟩])
 (.seq (.reg [⟨(some 76), .load 5 true (.t 11), none, 1376256, 0, []⟩,
   ⟨(some 77), .mv (.t 15), none, 1376512, 1, []⟩,
   ⟨(some 78), .call 45 [(.t 76), (.t 77)] true, none, 1376768, 2, []⟩,
   ⟨(some 15), .mv (.t 78), none, 1377024, 3, []⟩])
 (.seq (.seq (.reg [⟨(some 79), .mv (.t 15), none, 1441792, 0, []⟩,
   ⟨(some 80), .bin .lss (.t 79) (.k (.int .i64 0)), none, 1442048, 1, []⟩])
 (.cond (.t 80)
  (.seq (.reg [⟨(some 6), .mv (.k (.bool false)), none, 1507328, 0, []⟩])
  (.ret))
  (.skip)))
 (.seq (.seq (.reg [⟨(some 81), .mv (.t 15), none, 1572864, 0, []⟩,
   ⟨(some 82), .mv (.t 14), none, 1573120, 1, []⟩,
   ⟨(some 83), .bin .neq (.t 81) (.t 82), none, 1573376, 2, []⟩])
 (.cond (.t 83)
  (.seq (.reg [⟨(some 6), .mv (.k (.bool false)), none, 1638400, 0, []⟩])
  (.ret))
  (.skip)))
 (.seq (.reg [⟨(some 85), .load 5 true (.t 3), none, 1703936, 0, []⟩,
   ⟨(some 86), .call 54 [(.t 85)] false, none, 1704192, 1, []⟩,
   ⟨(some 87), .mv (.t 1), none, 1704448, 2, []⟩,
   ⟨(some 88), .mv (.t 2), none, 1704704, 3, []⟩,
   ⟨(some 89), .call 64 [(.t 86), (.t 87), (.t 88)] false, none, 1704960, 4, []⟩,
   ⟨(some 84), .mv (.t 89), none, 1705216, 5, []⟩,
   ⟨(some 90), .ext (.t 84) 0, none, 1705472, 6, []⟩,
   ⟨(some 91), .ext (.t 84) 1, none, 1705728, 7, []⟩,
   ⟨(some 16), .alloc [(.int .i64 0), (.int .i64 0), (.int .i64 0), (.int .i64 0), (.nil true 1)], none, 1705984, 8, []⟩,
   ⟨none, .store 5 (.t 16) (.t 90), none, 1706240, 9, []⟩,
   ⟨(some 17), .mv (.t 91), none, 1706496, 10, []⟩])
 (.seq (.seq (.reg [⟨(some 92), .load 5 true (.t 16), none, 1769472, 0, []⟩,
   ⟨(some 93), .load 5 true (.t 8), none, 1769728, 1, []⟩,
   ⟨(some 94), .call 43 [(.t 92), (.t 93)] true, none, 1769984, 2, []⟩,
   ⟨(some 95), .not (.t 94), none, 1770240, 3, []⟩,
   ⟨(some 96), .mv (.t 95), none, 1770496, 4, []⟩,
   ⟨(some 97), .mv (.t 17), (some (some 96, false)), 1770752, 5, []⟩,
   ⟨(some 98), .mv (.t 9), (some (some 96, false)), 1771008, 6, []⟩,
   ⟨(some 99), .bin .neq (.t 97) (.t 98), (some (some 96, false)), 1771264, 7, []⟩,
   ⟨(some 100), .pick (.t 96) (.k (.bool true)) (.t 99), none, 1771520, 8, []⟩])
 (.cond (.t 100)
  (.seq (.reg [⟨(some 6), .mv (.k (.bool false)), none, 1835008, 0, []⟩])
  (.ret))
  (.skip)))
 (.seq (.reg [⟨(some 15), .mv (.k (.int .i64 1)), none, 1900544, 0, []⟩])
 (.seq (.reg [⟨(some 101), .load 5 true (.t 11), none, 1966080, 0, []⟩,
   ⟨(some 102), .mv (.t 15), none, 1966336, 1, []⟩,
   ⟨(some 103), .call 45 [(.t 101), (.t 102)] true, none, 1966592, 2, []⟩,
   ⟨(some 15), .mv (.t 103), none, 1966848, 3, []⟩])
 (.seq (.seq (.reg [⟨(some 104), .mv (.t 15), none, 2031616, 0, []⟩,
   ⟨(some 105), .bin .lss (.t 104) (.k (.int .i64 0)), none, 2031872, 1, []⟩])
 (.cond (.t 105)
  (.seq (.reg [⟨(some 6), .mv (.k (.bool false)), none, 2097152, 0, []⟩])
  (.ret))
  (.skip)))
 (.seq (.seq (.reg [⟨(some 106), .mv (.t 15), none, 2162688, 0, []⟩,
   ⟨(some 107), .mv (.t 14), none, 2162944, 1, []⟩,
   ⟨(some 108), .bin .neq (.t 106) (.t 107), none, 2163200, 2, []⟩])
 (.cond (.t 108)
  (.seq (.reg [⟨(some 6), .mv (.k (.bool false)), none, 2228224, 0, []⟩])
  (.ret))
  (.skip)))
 (.seq (.reg [⟨(some 6), .mv (.k (.bool true)), none, 2293760, 0, []⟩])
 (.ret))))))))))))))))))))))))))⟩
/-- loop.example/g00849/laws.FnDeltas -/
def F15 : F := ⟨1, 161, [.t 2],
 .seq (.reg [⟨(some 2), .mv (.k (.bool false)), none, 0, 0, []⟩])
 (.seq (.seq (.reg [⟨(some 21), .mv (.t 0), none, 65536, 0, []⟩,
   ⟨(some 22), .len false (.t 21), none, 65792, 1, []⟩,
   ⟨(some 23), .bin .gtr (.t 22) (.k (.int .i64 1048576)), none, 66048, 2, []⟩])
 (.cond (.t 23)
  (.seq (.reg [⟨(some 2), .mv (.k (.bool true)), none, 131072, 0, []⟩])
  (.ret))
  (.skip)))
 (.seq (.reg [⟨(some 24), .mv (.t 0), none, 196608, 0, []⟩,
   ⟨(some 25), .call 30 [(.t 24)] true, none, 196864, 1, []⟩,
   ⟨(some 3), .alloc [(.int .i64 0), (.int .i64 0)], none, 197120, 2, []⟩,
   ⟨none, .store 2 (.t 3) (.t 25), none, 197376, 3, []⟩])
 (.seq (.reg [⟨(some 26), .mv (.t 0), none, 262144, 0, []⟩,
   ⟨(some 27), .call 46 [(.t 26)] true, none, 262400, 1, []⟩,
   ⟨(some 4), .mv (.t 27), none, 262656, 2, []⟩])
 (.seq (.reg [⟨(some 28), .mv (.t 4), none, 327680, 0, []⟩,
   ⟨(some 29), .len true (.t 28), none, 327936, 1, []⟩,
   ⟨(some 5), .mv (.t 29), none, 328192, 2, []⟩])
 (.seq (.reg [⟨(some 30), .mv (.t 0), none, 393216, 0, []⟩,
   ⟨(some 31), .call 33 [(.t 30), (.k (.int .i64 0)), (.k (.int .i64 8))] true, none, 393472, 1, []⟩,
   ⟨(some 32), .bin .add (.k (.int .i64 1)) (.t 31), none, 393728, 2, []⟩,
   ⟨(some 6), .mv (.t 32), none, 393984, 3, []⟩])
 (.seq (.reg [⟨(some 33), .mv (.t 0), none, 458752, 0, []⟩,
   ⟨(some 34), .mv (.t 5), none, 459008, 1, []⟩,
   ⟨(some 35), .bin .add (.t 34) (.k (.int .i64 1)), none, 459264, 2, []⟩,
   ⟨(some 36), .call 33 [(.t 33), (.k (.int .i64 1)), (.t 35)] true, none, 459520, 3, []⟩,
   ⟨(some 7), .mv (.t 36), none, 459776, 4, []⟩])
 (.seq (.reg [⟨(some 37), .mv (.t 0), none, 524288, 0, []⟩,
   ⟨(some 38), .call 66 [(.k (.int .i64 3)), (.t 37)] false, none, 524544, 1, []⟩,
   ⟨(some 39), .call 65 [(.t 38)] true, none, 524800, 2, []⟩,
   ⟨(some 8), .mv (.t 39), none, 525056, 3, []⟩])
 (.seq (.reg [⟨(some 40), .mv (.t 8), none, 589824, 0, []⟩,
   ⟨(some 41), .mv (.t 8), none, 590080, 1, []⟩,
   ⟨(some 42), .len true (.t 41), none, 590336, 2, []⟩,
   ⟨(some 43), .mv (.t 5), none, 590592, 3, []⟩,
   ⟨(some 44), .mv (.t 7), none, 590848, 4, []⟩,
   ⟨(some 45), .bin .sub (.t 43) (.t 44), none, 591104, 5, []⟩,
   ⟨(some 46), .min (.t 42) (.t 45), none, 591360, 6, []⟩,
   ⟨(some 47), .scut (.t 40) none (some (.t 46)), none, 591616, 7, []⟩,
   ⟨(some 8), .mv (.t 47), none, 591872, 8, []⟩])
 (.seq (.reg [⟨(some 49), .load 2 true (.t 3), none, 655360, 0, []⟩,
   ⟨(some 50), .mv (.t 6), none, 655616, 1, []⟩,
   ⟨(some 51), .mv (.t 4), none, 655872, 2, []⟩,
   ⟨(some 52), .call 42 [(.t 49), (.t 50), (.t 51)] false, none, 656128, 3, []⟩,
   ⟨(some 48), .mv (.t 52), none, 656384, 4, []⟩,
   ⟨(some 53), .ext (.t 48) 0, none, 656640, 5, []⟩,
   ⟨(some 54), .ext (.t 48) 1, none, 656896, 6, []⟩,
   ⟨(some 9), .alloc [(.int .i64 0), (.int .i64 0), (.int .i64 0), (.int .i64 0), (.nil true 1)], none, 657152, 7, []⟩,
   ⟨none, .store 5 (.t 9) (.t 53), none, 657408, 8, []⟩,
   ⟨(some 10), .mv (.t 54), none, 657664, 9, []⟩])
 (.seq (.reg [⟨(some 56), .load 5 true (.t 9), none, 720896, 0, []⟩,
   ⟨(some 57), .mv (.t 7), none, 721152, 1, []⟩,
   ⟨(some 58), .mv (.t 8), none, 721408, 2, []⟩,
   ⟨(some 59), .call 64 [(.t 56), (.t 57), (.t 58)] false, none, 721664, 3, []⟩,
   ⟨(some 55), .mv (.t 59), none, 721920, 4, []⟩,
   ⟨(some 60), .ext (.t 55) 0, none, 722176, 5, []⟩,
   ⟨(some 61), .ext (.t 55) 1, none, 722432, 6, []⟩,
   ⟨(some 11), .alloc [(.int .i64 0), (.int .i64 0), (.int .i64 0), (.int .i64 0), (.nil true 1)], none, 722688, 7, []⟩,
   ⟨none, .store 5 (.t 11) (.t 60), none, 722944, 8, []⟩,
   ⟨(some 12), .mv (.t 61), none, 723200, 9, []⟩])
 (.seq (.reg [⟨(some 63), .load 2 true (.t 3), none, 786432, 0, []⟩,
   ⟨(some 64), .mv (.t 6), none, 786688, 1, []⟩,
   ⟨(some 65), .mv (.t 4), none, 786944, 2, []⟩,
   ⟨(some 66), .mv (.t 7), none, 787200, 3, []⟩,
   ⟨(some 67), .scut (.t 65) none (some (.t 66)), none, 787456, 4, []⟩,
   ⟨(some 68), .mv (.t 8), none, 787712, 5, []⟩,
   ⟨(some 69), .bin .add (.t 67) (.t 68), none, 787968, 6, []⟩,
   ⟨(some 70), .mv (.t 4), none, 788224, 7, []⟩,
   ⟨(some 71), .mv (.t 7), none, 788480, 8, []⟩,
   ⟨(some 72), .mv (.t 8), none, 788736, 9, []⟩,
   ⟨(some 73), .len true (.t 72), none, 788992, 10, []⟩,
   ⟨(some 74), .bin .add (.t 71) (.t 73), none, 789248, 11, []⟩,
   ⟨(some 75), .scut (.t 70) (some (.t 74)) none, none, 789504, 12, []⟩,
   ⟨(some 76), .bin .add (.t 69) (.t 75), none, 789760, 13, []⟩,
   ⟨(some 77), .call 42 [(.t 63), (.t 64), (.t 76)] false, none, 790016, 14, []⟩,
   ⟨(some 62), .mv (.t 77), none, 790272, 15, []⟩,
   ⟨(some 78), .ext (.t 62) 0, none, 790528, 16, []⟩,
   ⟨(some 79), .ext (.t 62) 1, none, 790784, 17, []⟩,
   ⟨(some 13), .alloc [(.int .i64 0), (.int .i64 0), (.int .i64 0), (.int .i64 0), (.nil true 1)], none, 791040, 18, []⟩,
   ⟨none, .store 5 (.t 13) (.t 78), none, 791296, 19, []⟩,
   ⟨(some 14), .mv (.t 79), none, 791552, 20, []⟩])
 (.seq (.seq (.reg [⟨(some 80), .mv (.t 10), none, 851968, 0, []⟩,
   ⟨(some 81), .bin .neq (.t 80) (.k (.int .i64 0)), none, 852224, 1, []⟩,
   ⟨(some 82), .mv (.t 81), none, 852480, 2, []⟩,
   ⟨(some 83), .mv (.t 12), (some (some 82, false)), 852736, 3, []⟩,
   ⟨(some 84), .bin .neq (.t 83) (.k (.int .i64 0)), (some (some 82, false)), 852992, 4, []⟩,
   ⟨(some 85), .pick (.t 82) (.k (.bool true)) (.t 84), none, 853248, 5, []⟩,
   ⟨(some 86), .mv (.t 85), none, 853504, 6, []⟩,
   ⟨(some 87), .mv (.t 14), (some (some 86, false)), 853760, 7, []⟩,
   ⟨(some 88), .bin .neq (.t 87) (.k (.int .i64 0)), (some (some 86, false)), 854016, 8, []⟩,
   ⟨(some 89), .pick (.t 86) (.k (.bool true)) (.t 88), none, 854272, 9, []⟩,
   ⟨(some 90), .mv (.t 89), none, 854528, 10, []⟩,
   ⟨(some 91), .faddr 4 (.t 11), (some (some 90, false)), 854784, 11, []⟩,
   ⟨(some 92), .load 1 false (.t 91), (some (some 90, false)), 855040, 12, []⟩,
   ⟨(some 93), .faddr 4 (.t 13), (some (some 90, false)), 855296, 13, []⟩,
   ⟨(some 94), .load 1 false (.t 93), (some (some 90, false)), 855552, 14, []⟩,
   ⟨(some 95), .call 67 [(.t 92), (.t 94)] true, (some (some 90, false)), 855808, 15, []⟩,
   ⟨(some 96), .not (.t 95), (some (some 90, false)), 856064, 16, []⟩,
   ⟨(some 97), .pick (.t 90) (.k (.bool true)) (.t 96), none, 856320, 17, []⟩,
   ⟨(some 98), .mv (.t 97), none, 856576, 18, []⟩,
   ⟨(some 99), .load 5 true (.t 11), (some (some 98, false)), 856832, 19, []⟩,
   ⟨(some 100), .call 50 [(.t 99)] true, (some (some 98, false)), 857088, 20, []⟩,
   ⟨(some 101), .not (.t 100), (some (some 98, false)), 857344, 21, []⟩,
   ⟨(some 102), .pick (.t 98) (.k (.bool true)) (.t 101), none, 857600, 22, []⟩,
   ⟨(some 103), .mv (.t 102), none, 857856, 23, []⟩,
   ⟨(some 104), .faddr 4 (.t 13), (some (some 103, false)), 858112, 24, []⟩,
   ⟨(some 105), .load 1 false (.t 104), (some (some 103, false)), 858368, 25, []⟩,
   ⟨(some 106), .len false (.t 105), (some (some 103, false)), 858624, 26, []⟩,
   ⟨(some 107), .faddr 0 (.t 3), (some (some 103, false)), 858880, 27, []⟩,
   ⟨(some 108), .load 1 false (.t 107), (some (some 103, false)), 859136, 28, []⟩,
   ⟨(some 109), .faddr 1 (.t 3), (some (some 103, false)), 859392, 29, []⟩,
   ⟨(some 110), .load 1 false (.t 109), (some (some 103, false)), 859648, 30, []⟩,
   ⟨(some 111), .bin .add (.t 108) (.t 110), (some (some 103, false)), 859904, 31, []⟩,
   ⟨(some 112), .bin .neq (.t 106) (.t 111), (some (some 103, false)), 860160, 32, []⟩,
   ⟨(some 113), .pick (.t 103) (.k (.bool true)) (.t 112), none, 860416, 33, []⟩])
 (.cond (.t 113)
  (.seq (.reg [⟨(some 2), .mv (.k (.bool false)), none, 917504, 0, []⟩])
  (.ret))
  (.skip)))
 (.seq (.reg [⟨(some 115), .load 5 true (.t 9), none, 983040, 0, []⟩,
   ⟨(some 116), .mv (.t 7), none, 983296, 1, []⟩,
   ⟨(some 117), .mv (.t 8), none, 983552, 2, []⟩,
   ⟨(some 118), .call 59 [(.t 115), (.t 116), (.t 117)] false, none, 983808, 3, []⟩,
   ⟨(some 114), .mv (.t 118), none, 984064, 4, []⟩,
   ⟨(some 119), .ext (.t 114) 0, none, 984320, 5, []⟩,
   ⟨(some 120), .ext (.t 114) 1, none, 984576, 6, []⟩,
   ⟨(some 15), .mv (.t 119), none, 984832, 7, []⟩,
   ⟨(some 16), .mv (.t 120), none, 985088, 8, []⟩])
 (.seq (.seq (.reg [⟨(some 121), .mv (.t 16), none, 1048576, 0, []⟩,
   ⟨(some 122), .bin .neq (.t 121) (.k (.int .i64 0)), none, 1048832, 1, []⟩,
   ⟨(some 123), .mv (.t 122), none, 1049088, 2, []⟩,
   ⟨(some 124), .mv (.t 8), (some (some 123, false)), 1049344, 3, []⟩,
   ⟨(some 125), .len true (.t 124), (some (some 123, false)), 1049600, 4, []⟩,
   ⟨(some 126), .bin .gtr (.t 125) (.k (.int .i64 0)), (some (some 123, false)), 1049856, 5, []⟩,
   ⟨(some 127), .mv (.t 126), (some (some 123, false)), 1050112, 6, []⟩,
   ⟨(some 128), .mv (.t 15), (some (some 127, true)), 1050368, 7, []⟩,
   ⟨(some 129), .len false (.t 128), (some (some 127, true)), 1050624, 8, []⟩,
   ⟨(some 130), .faddr 1 (.t 3), (some (some 127, true)), 1050880, 9, []⟩,
   ⟨(some 131), .load 1 false (.t 130), (some (some 127, true)), 1051136, 10, []⟩,
   ⟨(some 132), .bin .add (.k (.int .i64 1)) (.t 131), (some (some 127, true)), 1051392, 11, []⟩,
   ⟨(some 133), .bin .lss (.t 129) (.t 132), (some (some 127, true)), 1051648, 12, []⟩,
   ⟨(some 134), .pick (.t 127) (.t 133) (.k (.bool false)), (some (some 123, false)), 1051904, 13, []⟩,
   ⟨(some 135), .pick (.t 123) (.k (.bool true)) (.t 134), none, 1052160, 14, []⟩])
 (.cond (.t 135)
  (.seq (.reg [⟨(some 2), .mv (.k (.bool false)), none, 1114112, 0, []⟩])
  (.ret))
  (.skip)))
 (.seq (.reg [⟨(some 136), .load 5 true (.t 9), none, 1179648, 0, []⟩,
   ⟨(some 17), .alloc [(.int .i64 0), (.int .i64 0), (.int .i64 0), (.int .i64 0), (.nil true 1)], none, 1179904, 1, []⟩,
   ⟨none, .store 5 (.t 17) (.t 136), none, 1180160, 2, []⟩])
 (.seq (.seq (.reg [⟨(some 137), .mv (.t 15), none, 1245184, 0, []⟩,
   ⟨(some 138), .len false (.t 137), none, 1245440, 1, []⟩,
   ⟨(some 139), .bin .sub (.t 138) (.k (.int .i64 1)), none, 1245696, 2, []⟩,
   ⟨(some 18), .mv (.t 139), none, 1245952, 3, []⟩])
 (.block 0 (.loop [13, 15, 17, 18] [656128, 790016, 791040, 983808, 1179904]
  (.seq (.seq (.seq (.reg [⟨(some 140), .mv (.t 18), none, 1310720, 0, []⟩,
    ⟨(some 141), .bin .geq (.t 140) (.k (.int .i64 0)), none, 1310976, 1, []⟩])
  (.cond (.t 141)
   (.skip)
   (.exit 0)))
  (.seq (.block 1 (.seq (.reg [⟨(some 145), .load 5 true (.t 17), none, 1441792, 0, []⟩,
    ⟨(some 146), .mv (.t 15), none, 1442048, 1, []⟩,
    ⟨(some 147), .mv (.t 18), none, 1442304, 2, []⟩,
    ⟨(some 148), .iaddr 3 (.t 146) (.t 147), none, 1442560, 3, []⟩,
    ⟨(some 149), .load 3 true (.t 148), none, 1442816, 4, []⟩,
    ⟨(some 150), .call 68 [(.t 145), (.t 149)] false, none, 1443072, 5, []⟩,
    ⟨(some 144), .mv (.t 150), none, 1443328, 6, []⟩,
    ⟨(some 151), .ext (.t 144) 0, none, 1443584, 7, []⟩,
    ⟨(some 152), .ext (.t 144) 1, none, 1443840, 8, []⟩,
    ⟨(some 19), .alloc [(.int .i64 0), (.int .i64 0), (.int .i64 0), (.int .i64 0), (.nil true 1)], none, 1444096, 9, []⟩,
    ⟨none, .store 5 (.t 19) (.t 151), none, 1444352, 10, []⟩,
    ⟨(some 20), .mv (.t 152), none, 1444608, 11, []⟩])
  (.seq (.seq (.reg [⟨(some 153), .mv (.t 20), none, 1507328, 0, []⟩,
    ⟨(some 154), .bin .neq (.t 153) (.k (.int .i64 0)), none, 1507584, 1, []⟩])
  (.cond (.t 154)
   (.seq (.reg [⟨(some 2), .mv (.k (.bool false)), none, 1572864, 0, []⟩])
   (.ret))
   (.skip)))
  (.reg [⟨(some 155), .load 5 true (.t 19), none, 1638400, 0, []⟩,
    ⟨none, .store 5 (.t 17) (.t 155), none, 1638656, 1, []⟩]))))
  (.reg [⟨(some 142), .mv (.t 18), none, 1376256, 0, []⟩,
    ⟨(some 143), .bin .sub (.t 142) (.k (.int .i64 1)), none, 1376512, 1, []⟩,
    ⟨(some 18), .mv (.t 143), none, 1376768, 2, []⟩])))
  (.ren 1443072 656128)))))
 (.seq (.reg [⟨(some 156), .faddr 4 (.t 17), none, 1703936, 0, []⟩,
   ⟨(some 157), .load 1 false (.t 156), none, 1704192, 1, []⟩,
   ⟨(some 158), .faddr 4 (.t 13), none, 1704448, 2, []⟩,
   ⟨(some 159), .load 1 false (.t 158), none, 1704704, 3, []⟩,
   ⟨(some 160), .call 67 [(.t 157), (.t 159)] true, none, 1704960, 4, []⟩,
   ⟨(some 2), .mv (.t 160), none, 1705216, 5, []⟩])
 (.ret))))))))))))))))))⟩
/-- loop.example/g00849/laws.toCode -/
def F18 : F := ⟨1, 11, [.cell 2 2 true],
 .seq (.reg [⟨(some 1), .box (.t 0), none, 0, 0, []⟩,
   ⟨(some 2), .alloc [(.int .i64 0), (.int .i64 0)], none, 256, 1, []⟩])
 (.seq (.reg [⟨(some 3), .alloc [(.int .i64 0), (.int .i64 0)], none, 65536, 0, []⟩])
 (.seq (.reg [⟨(some 4), .faddr 0 (.t 1), none, 131072, 0, []⟩,
   ⟨(some 5), .load 1 false (.t 4), none, 131328, 1, []⟩,
   ⟨(some 6), .faddr 0 (.t 3), none, 131584, 2, []⟩,
   ⟨none, .store 1 (.t 6) (.t 5), none, 131840, 3, []⟩])
 (.seq (.reg [⟨(some 7), .faddr 1 (.t 1), none, 196608, 0, []⟩,
   ⟨(some 8), .load 1 false (.t 7), none, 196864, 1, []⟩,
   ⟨(some 9), .faddr 1 (.t 3), none, 197120, 2, []⟩,
   ⟨none, .store 1 (.t 9) (.t 8), none, 197376, 3, []⟩])
 (.seq (.reg [⟨(some 10), .load 2 true (.t 3), none, 262144, 0, []⟩,
   ⟨none, .store 2 (.t 2) (.t 10), none, 262400, 1, []⟩])
 (.ret)))))⟩
/-- loop.example/g00849/spec.A8Code -/
def F30 : F := ⟨1, 8, [.cell 2 2 true],
 .seq (.reg [⟨(some 2), .alloc [(.int .i64 0), (.int .i64 0)], none, 0, 0, []⟩])
 (.seq (.reg [⟨(some 4), .mv (.t 0), none, 65536, 0, []⟩,
   ⟨(some 5), .call 82 [(.t 4)] false, none, 65792, 1, []⟩,
   ⟨(some 3), .mv (.t 5), none, 66048, 2, []⟩])
 (.seq (.reg [⟨(some 6), .mv (.t 3), none, 131072, 0, []⟩,
   ⟨(some 7), .call 83 [(.t 6)] true, none, 131328, 1, []⟩,
   ⟨none, .store 2 (.t 2) (.t 7), none, 131584, 2, []⟩])
 (.ret)))⟩
/-- loop.example/g00849/laws.a8At -/
def F33 : F := ⟨3, 42, [.t 6],
 .seq (.reg [⟨(some 6), .mv (.k (.int .i64 0)), none, 0, 0, []⟩])
 (.seq (.seq (.reg [⟨(some 8), .mv (.t 2), none, 65536, 0, []⟩,
   ⟨(some 9), .bin .leq (.t 8) (.k (.int .i64 1)), none, 65792, 1, []⟩])
 (.cond (.t 9)
  (.seq (.reg [⟨(some 6), .mv (.k (.int .i64 0)), none, 131072, 0, []⟩])
  (.ret))
  (.skip)))
 (.seq (.seq (.reg [⟨(some 10), .mv (.t 0), none, 196608, 0, []⟩,
   ⟨(some 11), .len false (.t 10), none, 196864, 1, []⟩,
   ⟨(some 12), .bin .eql (.t 11) (.k (.int .i64 0)), none, 197120, 2, []⟩])
 (.cond (.t 12)
  (.seq (.reg [⟨(some 13), .mv (.t 1), none, 262144, 0, []⟩,
    ⟨(some 14), .bin .mul (.t 13) (.k (.int .i64 7)), none, 262400, 1, []⟩,
    ⟨(some 15), .mv (.t 2), none, 262656, 2, []⟩,
    ⟨(some 16), .bin .rem (.t 14) (.t 15), none, 262912, 3, []⟩,
    ⟨(some 6), .mv (.t 16), none, 263168, 4, []⟩])
  (.ret))
  (.skip)))
 (.seq (.reg [⟨(some 17), .mv (.t 0), none, 327680, 0, []⟩,
   ⟨(some 18), .len false (.t 17), none, 327936, 1, []⟩,
   ⟨(some 7), .mv (.t 18), none, 328192, 2, []⟩])
 (.seq (.reg [⟨(some 19), .mv (.t 0), none, 393216, 0, []⟩,
   ⟨(some 20), .mv (.t 1), none, 393472, 1, []⟩,
   ⟨(some 21), .mv (.t 7), none, 393728, 2, []⟩,
   ⟨(some 22), .bin .rem (.t 20) (.t 21), none, 393984, 3, []⟩,
   ⟨(some 23), .iaddr 1 (.t 19) (.t 22), none, 394240, 4, []⟩,
   ⟨(some 24), .load 1 false (.t 23), none, 394496, 5, []⟩,
   ⟨(some 25), .conv .i64 (.t 24), none, 394752, 6, []⟩,
   ⟨(some 26), .bin .mul (.t 25) (.k (.int .i64 31)), none, 395008, 7, []⟩,
   ⟨(some 27), .mv (.t 0), none, 395264, 8, []⟩,
   ⟨(some 28), .mv (.t 1), none, 395520, 9, []⟩,
   ⟨(some 29), .bin .add (.t 28) (.k (.int .i64 1)), none, 395776, 10, []⟩,
   ⟨(some 30), .mv (.t 7), none, 396032, 11, []⟩,
   ⟨(some 31), .bin .rem (.t 29) (.t 30), none, 396288, 12, []⟩,
   ⟨(some 32), .iaddr 1 (.t 27) (.t 31), none, 396544, 13, []⟩,
   ⟨(some 33), .load 1 false (.t 32), none, 396800, 14, []⟩,
   ⟨(some 34), .conv .i64 (.t 33), none, 397056, 15, []⟩,
   ⟨(some 35), .bin .add (.t 26) (.t 34), none, 397312, 16, []⟩,
   ⟨(some 36), .mv (.t 1), none, 397568, 17, []⟩,
   ⟨(some 37), .mv (.t 7), none, 397824, 18, []⟩,
   ⟨(some 38), .bin .quo (.t 36) (.t 37), none, 398080, 19, []⟩,
   ⟨(some 39), .bin .add (.t 35) (.t 38), none, 398336, 20, []⟩,
   ⟨(some 40), .mv (.t 2), none, 398592, 21, []⟩,
   ⟨(some 41), .bin .rem (.t 39) (.t 40), none, 398848, 22, []⟩,
   ⟨(some 6), .mv (.t 41), none, 399104, 23, []⟩])
 (.ret)))))⟩
/-- loop.example/g00849/impl.WideOf -/
def F42 : F := ⟨3, 27, [.cell 6 5 true, .t 7],
 .seq (.reg [⟨(some 3), .box (.t 0), none, 0, 0, []⟩,
   ⟨(some 6), .alloc [(.int .i64 0), (.int .i64 0), (.int .i64 0), (.int .i64 0), (.nil true 1)], none, 256, 1, []⟩,
   ⟨(some 7), .mv (.k (.int .i64 0)), none, 512, 2, []⟩])
 (.seq (.block 0 (.seq (.reg [⟨(some 9), .load 2 true (.t 3), none, 65536, 0, []⟩,
   ⟨(some 10), .call 84 [(.t 9)] true, none, 65792, 1, []⟩,
   ⟨(some 11), .not (.t 10), none, 66048, 2, []⟩,
   ⟨(some 8), .mv (.t 11), none, 66304, 3, []⟩])
 (.cond (.t 8)
  (.seq (.reg [⟨(some 12), .build [(.int .i64 0), (.int .i64 0), (.int .i64 0), (.int .i64 0), (.nil true 1)] [], none, 131072, 0, []⟩,
    ⟨none, .store 5 (.t 6) (.t 12), none, 131328, 1, []⟩,
    ⟨(some 7), .mv (.k (.int .i64 1)), none, 131584, 2, []⟩])
  (.ret))
  (.seq (.reg [⟨(some 14), .mv (.t 1), none, 196608, 0, []⟩,
    ⟨(some 15), .call 86 [(.t 14), (.k (.int .i64 1)), (.k (.int .i64 8))] true, none, 196864, 1, []⟩,
    ⟨(some 16), .not (.t 15), none, 197120, 2, []⟩,
    ⟨(some 13), .mv (.t 16), none, 197376, 3, []⟩])
  (.cond (.t 13)
   (.seq (.reg [⟨(some 17), .build [(.int .i64 0), (.int .i64 0), (.int .i64 0), (.int .i64 0), (.nil true 1)] [], none, 262144, 0, []⟩,
     ⟨none, .store 5 (.t 6) (.t 17), none, 262400, 1, []⟩,
     ⟨(some 7), .mv (.k (.int .i64 2)), none, 262656, 2, []⟩])
   (.ret))
   (.seq (.reg [⟨(some 19), .mv (.t 2), none, 327680, 0, []⟩,
     ⟨(some 20), .len true (.t 19), none, 327936, 1, []⟩,
     ⟨(some 21), .bin .gtr (.t 20) (.k (.int .i64 256)), none, 328192, 2, []⟩,
     ⟨(some 18), .mv (.t 21), none, 328448, 3, []⟩])
   (.cond (.t 18)
    (.seq (.reg [⟨(some 22), .build [(.int .i64 0), (.int .i64 0), (.int .i64 0), (.int .i64 0), (.nil true 1)] [], none, 393216, 0, []⟩,
      ⟨none, .store 5 (.t 6) (.t 22), none, 393472, 1, []⟩,
      ⟨(some 7), .mv (.k (.int .i64 4)), none, 393728, 2, []⟩])
    (.ret))
    (.skip))))))))
 (.seq (.reg [⟨(some 23), .load 2 true (.t 3), none, 458752, 0, []⟩,
   ⟨(some 24), .mv (.t 1), none, 459008, 1, []⟩,
   ⟨(some 25), .mv (.t 2), none, 459264, 2, []⟩,
   ⟨(some 26), .call 90 [(.t 23), (.t 24), (.t 25)] false, none, 459520, 3, []⟩,
   ⟨none, .store 5 (.t 6) (.t 26), none, 459776, 4, []⟩,
   ⟨(some 7), .mv (.k (.int .i64 0)), none, 460032, 5, []⟩])
 (.ret)))⟩
/-- loop.example/g00849/laws.eqWide -/
def F43 : F := ⟨2, 27, [.t 4],
 .seq (.reg [⟨(some 2), .box (.t 0), none, 0, 0, []⟩,
   ⟨(some 3), .box (.t 1), none, 256, 1, []⟩,
   ⟨(some 4), .mv (.k (.bool false)), none, 512, 2, []⟩])
 (.seq (.seq (.reg [⟨(some 5), .faddr 0 (.t 2), none, 65536, 0, []⟩,
   ⟨(some 6), .load 2 true (.t 5), none, 65792, 1, []⟩,
   ⟨(some 7), .faddr 0 (.t 3), none, 66048, 2, []⟩,
   ⟨(some 8), .load 2 true (.t 7), none, 66304, 3, []⟩,
   ⟨(some 9), .call 91 [(.t 6), (.t 8)] true, none, 66560, 4, []⟩,
   ⟨(some 10), .not (.t 9), none, 66816, 5, []⟩])
 (.cond (.t 10)
  (.seq (.reg [⟨(some 4), .mv (.k (.bool false)), none, 131072, 0, []⟩])
  (.ret))
  (.skip)))
 (.seq (.seq (.reg [⟨(some 11), .faddr 2 (.t 2), none, 196608, 0, []⟩,
   ⟨(some 12), .load 1 false (.t 11), none, 196864, 1, []⟩,
   ⟨(some 13), .faddr 2 (.t 3), none, 197120, 2, []⟩,
   ⟨(some 14), .load 1 false (.t 13), none, 197376, 3, []⟩,
   ⟨(some 15), .bin .neq (.t 12) (.t 14), none, 197632, 4, []⟩])
 (.cond (.t 15)
  (.seq (.reg [⟨(some 4), .mv (.k (.bool false)), none, 262144, 0, []⟩])
  (.ret))
  (.skip)))
 (.seq (.seq (.reg [⟨(some 16), .faddr 3 (.t 2), none, 327680, 0, []⟩,
   ⟨(some 17), .load 1 false (.t 16), none, 327936, 1, []⟩,
   ⟨(some 18), .faddr 3 (.t 3), none, 328192, 2, []⟩,
   ⟨(some 19), .load 1 false (.t 18), none, 328448, 3, []⟩,
   ⟨(some 20), .bin .neq (.t 17) (.t 19), none, 328704, 4, []⟩])
 (.cond (.t 20)
  (.seq (.reg [⟨(some 4), .mv (.k (.bool false)), none, 393216, 0, []⟩])
  (.ret))
  (.skip)))
 (.seq (.seq (.reg [⟨(some 21), .faddr 4 (.t 2), none, 458752, 0, []⟩,
   ⟨(some 22), .load 1 false (.t 21), none, 459008, 1, []⟩,
   ⟨(some 23), .faddr 4 (.t 3), none, 459264, 2, []⟩,
   ⟨(some 24), .load 1 false (.t 23), none, 459520, 3, []⟩,
   ⟨(some 25), .call 92 [(.t 22), (.t 24)] true, none, 459776, 4, []⟩,
   ⟨(some 26), .not (.t 25), none, 460032, 5, []⟩])
 (.cond (.t 26)
  (.seq (.reg [⟨(some 4), .mv (.k (.bool false)), none, 524288, 0, []⟩])
  (.ret))
  (.skip)))
 (.seq (.reg [⟨(some 4), .mv (.k (.bool true)), none, 589824, 0, []⟩])
 (.ret))))))⟩
/-- loop.example/g00849/laws.markWide -/
def F44 : F := ⟨2, 10, [.t 4],
 .seq (.reg [⟨(some 2), .box (.t 0), none, 0, 0, []⟩,
   ⟨(some 4), .mv (.k (.int .i64 0)), none, 256, 1, []⟩])
 (.seq (.reg [⟨(some 5), .faddr 4 (.t 2), none, 65536, 0, []⟩,
   ⟨(some 6), .load 1 false (.t 5), none, 65792, 1, []⟩,
   ⟨(some 7), .mv (.t 1), none, 66048, 2, []⟩,
   ⟨(some 8), .call 93 [(.t 6), (.t 7)] true, none, 66304, 3, []⟩,
   ⟨(some 1), .mv (.t 8), none, 66560, 4, []⟩])
 (.seq (.reg [⟨(some 9), .mv (.t 1), none, 131072, 0, []⟩,
   ⟨(some 4), .mv (.t 9), none, 131328, 1, []⟩])
 (.ret)))⟩
/-- loop.example/g00849/laws.heldWide -/
def F45 : F := ⟨2, 12, [.t 4],
 .seq (.reg [⟨(some 2), .box (.t 0), none, 0, 0, []⟩,
   ⟨(some 4), .mv (.k (.int .i64 0)), none, 256, 1, []⟩])
 (.seq (.reg [⟨(some 5), .faddr 4 (.t 2), none, 65536, 0, []⟩,
   ⟨(some 6), .load 1 false (.t 5), none, 65792, 1, []⟩,
   ⟨(some 7), .mv (.t 1), none, 66048, 2, []⟩,
   ⟨(some 8), .call 94 [(.t 6), (.t 7)] true, none, 66304, 3, []⟩,
   ⟨(some 1), .mv (.t 8), none, 66560, 4, []⟩])
 (.seq (.seq (.reg [⟨(some 9), .mv (.t 1), none, 131072, 0, []⟩,
   ⟨(some 10), .bin .lss (.t 9) (.k (.int .i64 0)), none, 131328, 1, []⟩])
 (.cond (.t 10)
  (.seq (.reg [⟨(some 4), .mv (.k (.int .i64 (-1))), none, 196608, 0, []⟩])
  (.ret))
  (.skip)))
 (.seq (.reg [⟨(some 11), .mv (.t 1), none, 262144, 0, []⟩,
   ⟨(some 4), .mv (.t 11), none, 262400, 1, []⟩])
 (.ret))))⟩
/-- loop.example/g00849/laws.a8Wide -/
def F46 : F := ⟨1, 19, [.t 2],
 .seq (.reg [⟨(some 2), .mv (.k (.str ByteArray.empty)), none, 0, 0, []⟩])
 (.seq (.reg [⟨(some 4), .mv (.t 0), none, 65536, 0, []⟩,
   ⟨(some 5), .call 65 [(.t 4)] true, none, 65792, 1, []⟩,
   ⟨(some 6), .mv (.t 0), none, 66048, 2, []⟩,
   ⟨(some 7), .call 66 [(.k (.int .i64 7)), (.t 6)] false, none, 66304, 3, []⟩,
   ⟨(some 8), .call 65 [(.t 7)] true, none, 66560, 4, []⟩,
   ⟨(some 9), .bin .add (.t 5) (.t 8), none, 66816, 5, []⟩,
   ⟨(some 10), .mv (.t 0), none, 67072, 6, []⟩,
   ⟨(some 11), .call 66 [(.k (.int .i64 8)), (.t 10)] false, none, 67328, 7, []⟩,
   ⟨(some 12), .call 65 [(.t 11)] true, none, 67584, 8, []⟩,
   ⟨(some 13), .bin .add (.t 9) (.t 12), none, 67840, 9, []⟩,
   ⟨(some 3), .mv (.t 13), none, 68096, 10, []⟩])
 (.seq (.reg [⟨(some 14), .mv (.t 3), none, 131072, 0, []⟩,
   ⟨(some 15), .mv (.t 3), none, 131328, 1, []⟩,
   ⟨(some 16), .len true (.t 15), none, 131584, 2, []⟩,
   ⟨(some 17), .min (.t 16) (.k (.int .i64 256)), none, 131840, 3, []⟩,
   ⟨(some 18), .scut (.t 14) none (some (.t 17)), none, 132096, 4, []⟩,
   ⟨(some 2), .mv (.t 18), none, 132352, 5, []⟩])
 (.ret)))⟩
/-- loop.example/g00849/impl.WideOk -/
def F49 : F := ⟨1, 33, [.t 2],
 .seq (.reg [⟨(some 1), .box (.t 0), none, 0, 0, []⟩,
   ⟨(some 2), .mv (.k (.bool false)), none, 256, 1, []⟩])
 (.seq (.seq (.reg [⟨(some 3), .faddr 0 (.t 1), none, 65536, 0, []⟩,
   ⟨(some 4), .load 2 true (.t 3), none, 65792, 1, []⟩,
   ⟨(some 5), .call 84 [(.t 4)] true, none, 66048, 2, []⟩,
   ⟨(some 6), .not (.t 5), none, 66304, 3, []⟩,
   ⟨(some 7), .mv (.t 6), none, 66560, 4, []⟩,
   ⟨(some 8), .faddr 2 (.t 1), (some (some 7, false)), 66816, 5, []⟩,
   ⟨(some 9), .load 1 false (.t 8), (some (some 7, false)), 67072, 6, []⟩,
   ⟨(some 10), .call 86 [(.t 9), (.k (.int .i64 1)), (.k (.int .i64 8))] true, (some (some 7, false)), 67328, 7, []⟩,
   ⟨(some 11), .not (.t 10), (some (some 7, false)), 67584, 8, []⟩,
   ⟨(some 12), .pick (.t 7) (.k (.bool true)) (.t 11), none, 67840, 9, []⟩,
   ⟨(some 13), .mv (.t 12), none, 68096, 10, []⟩,
   ⟨(some 14), .faddr 3 (.t 1), (some (some 13, false)), 68352, 11, []⟩,
   ⟨(some 15), .load 1 false (.t 14), (some (some 13, false)), 68608, 12, []⟩,
   ⟨(some 16), .call 86 [(.t 15), (.k (.int .i64 0)), (.k (.int .i64 256))] true, (some (some 13, false)), 68864, 13, []⟩,
   ⟨(some 17), .not (.t 16), (some (some 13, false)), 69120, 14, []⟩,
   ⟨(some 18), .pick (.t 13) (.k (.bool true)) (.t 17), none, 69376, 15, []⟩,
   ⟨(some 19), .mv (.t 18), none, 69632, 16, []⟩,
   ⟨(some 20), .faddr 4 (.t 1), (some (some 19, false)), 69888, 17, []⟩,
   ⟨(some 21), .load 1 false (.t 20), (some (some 19, false)), 70144, 18, []⟩,
   ⟨(some 22), .len false (.t 21), (some (some 19, false)), 70400, 19, []⟩,
   ⟨(some 23), .faddr 0 (.t 1), (some (some 19, false)), 70656, 20, []⟩,
   ⟨(some 24), .load 2 true (.t 23), (some (some 19, false)), 70912, 21, []⟩,
   ⟨(some 25), .call 96 [(.t 24)] true, (some (some 19, false)), 71168, 22, []⟩,
   ⟨(some 26), .bin .neq (.t 22) (.t 25), (some (some 19, false)), 71424, 23, []⟩,
   ⟨(some 27), .pick (.t 19) (.k (.bool true)) (.t 26), none, 71680, 24, []⟩])
 (.cond (.t 27)
  (.seq (.reg [⟨(some 2), .mv (.k (.bool false)), none, 131072, 0, []⟩])
  (.ret))
  (.skip)))
 (.seq (.reg [⟨(some 28), .faddr 4 (.t 1), none, 196608, 0, []⟩,
   ⟨(some 29), .load 1 false (.t 28), none, 196864, 1, []⟩,
   ⟨(some 30), .mkf 98 [(.t 1)], none, 197120, 2, []⟩,
   ⟨(some 31), .call 97 [(.t 29), (.t 30)] true, none, 197376, 3, []⟩,
   ⟨(some 32), .not (.t 31), none, 197632, 4, []⟩,
   ⟨(some 2), .mv (.t 32), none, 197888, 5, []⟩])
 (.ret)))⟩
/-- loop.example/g00849/impl.WideWhole -/
def F50 : F := ⟨1, 22, [.t 2],
 .seq (.reg [⟨(some 1), .box (.t 0), none, 0, 0, []⟩,
   ⟨(some 2), .mv (.k (.bool false)), none, 256, 1, []⟩])
 (.seq (.reg [⟨(some 3), .load 5 true (.t 1), none, 65536, 0, []⟩,
   ⟨(some 4), .call 49 [(.t 3)] true, none, 65792, 1, []⟩,
   ⟨(some 5), .mv (.t 4), none, 66048, 2, []⟩,
   ⟨(some 6), .faddr 4 (.t 1), (some (some 5, true)), 66304, 3, []⟩,
   ⟨(some 7), .load 1 false (.t 6), (some (some 5, true)), 66560, 4, []⟩,
   ⟨(some 8), .faddr 0 (.t 1), (some (some 5, true)), 66816, 5, []⟩,
   ⟨(some 9), .load 2 true (.t 8), (some (some 5, true)), 67072, 6, []⟩,
   ⟨(some 10), .faddr 2 (.t 1), (some (some 5, true)), 67328, 7, []⟩,
   ⟨(some 11), .load 1 false (.t 10), (some (some 5, true)), 67584, 8, []⟩,
   ⟨(some 12), .load 5 true (.t 1), (some (some 5, true)), 67840, 9, []⟩,
   ⟨(some 13), .faddr 4 (.t 1), (some (some 5, true)), 68096, 10, []⟩,
   ⟨(some 14), .load 1 false (.t 13), (some (some 5, true)), 68352, 11, []⟩,
   ⟨(some 15), .faddr 3 (.t 1), (some (some 5, true)), 68608, 12, []⟩,
   ⟨(some 16), .load 1 false (.t 15), (some (some 5, true)), 68864, 13, []⟩,
   ⟨(some 17), .call 95 [(.t 12), (.t 14), (.k (.int .i64 0)), (.t 16)] true, (some (some 5, true)), 69120, 14, []⟩,
   ⟨(some 18), .call 90 [(.t 9), (.t 11), (.t 17)] false, (some (some 5, true)), 69376, 15, []⟩,
   ⟨(some 19), .field 4 1 false (.t 18), (some (some 5, true)), 69632, 16, []⟩,
   ⟨(some 20), .call 100 [(.t 7), (.t 19)] true, (some (some 5, true)), 69888, 17, []⟩,
   ⟨(some 21), .pick (.t 5) (.t 20) (.k (.bool false)), none, 70144, 18, []⟩,
   ⟨(some 2), .mv (.t 21), none, 70400, 19, []⟩])
 (.ret))⟩
/-- loop.example/g00849/laws.szWide -/
def F52 : F := ⟨2, 12, [.t 4],
 .seq (.reg [⟨(some 2), .box (.t 0), none, 0, 0, []⟩,
   ⟨(some 4), .mv (.k (.int .i64 0)), none, 256, 1, []⟩])
 (.seq (.reg [⟨(some 5), .faddr 4 (.t 2), none, 65536, 0, []⟩,
   ⟨(some 6), .load 1 false (.t 5), none, 65792, 1, []⟩,
   ⟨(some 7), .mv (.t 1), none, 66048, 2, []⟩,
   ⟨(some 8), .call 102 [(.t 6), (.t 7)] true, none, 66304, 3, []⟩,
   ⟨(some 1), .mv (.t 8), none, 66560, 4, []⟩])
 (.seq (.seq (.reg [⟨(some 9), .mv (.t 1), none, 131072, 0, []⟩,
   ⟨(some 10), .bin .lss (.t 9) (.k (.int .i64 0)), none, 131328, 1, []⟩])
 (.cond (.t 10)
  (.seq (.reg [⟨(some 4), .mv (.k (.int .i64 (-1))), none, 196608, 0, []⟩])
  (.ret))
  (.skip)))
 (.seq (.reg [⟨(some 11), .mv (.t 1), none, 262144, 0, []⟩,
   ⟨(some 4), .mv (.t 11), none, 262400, 1, []⟩])
 (.ret))))⟩
/-- loop.example/g00849/laws.toWide -/
def F54 : F := ⟨1, 19, [.cell 2 5 true],
 .seq (.reg [⟨(some 1), .box (.t 0), none, 0, 0, []⟩,
   ⟨(some 2), .alloc [(.int .i64 0), (.int .i64 0), (.int .i64 0), (.int .i64 0), (.nil true 1)], none, 256, 1, []⟩])
 (.seq (.reg [⟨(some 3), .alloc [(.int .i64 0), (.int .i64 0), (.int .i64 0), (.int .i64 0), (.nil true 1)], none, 65536, 0, []⟩])
 (.seq (.reg [⟨(some 4), .faddr 0 (.t 1), none, 131072, 0, []⟩,
   ⟨(some 5), .load 2 true (.t 4), none, 131328, 1, []⟩,
   ⟨(some 6), .call 18 [(.t 5)] true, none, 131584, 2, []⟩,
   ⟨(some 7), .faddr 0 (.t 3), none, 131840, 3, []⟩,
   ⟨none, .store 2 (.t 7) (.t 6), none, 132096, 4, []⟩])
 (.seq (.reg [⟨(some 8), .faddr 2 (.t 1), none, 196608, 0, []⟩,
   ⟨(some 9), .load 1 false (.t 8), none, 196864, 1, []⟩,
   ⟨(some 10), .faddr 2 (.t 3), none, 197120, 2, []⟩,
   ⟨none, .store 1 (.t 10) (.t 9), none, 197376, 3, []⟩])
 (.seq (.reg [⟨(some 11), .faddr 3 (.t 1), none, 262144, 0, []⟩,
   ⟨(some 12), .load 1 false (.t 11), none, 262400, 1, []⟩,
   ⟨(some 13), .faddr 3 (.t 3), none, 262656, 2, []⟩,
   ⟨none, .store 1 (.t 13) (.t 12), none, 262912, 3, []⟩])
 (.seq (.reg [⟨(some 14), .faddr 4 (.t 1), none, 327680, 0, []⟩,
   ⟨(some 15), .load 1 false (.t 14), none, 327936, 1, []⟩,
   ⟨(some 16), .call 106 [(.t 15)] false, none, 328192, 2, []⟩,
   ⟨(some 17), .faddr 4 (.t 3), none, 328448, 3, []⟩,
   ⟨none, .store 1 (.t 17) (.t 16), none, 328704, 4, []⟩])
 (.seq (.reg [⟨(some 18), .load 5 true (.t 3), none, 393216, 0, []⟩,
   ⟨none, .store 5 (.t 2) (.t 18), none, 393472, 1, []⟩])
 (.ret)))))))⟩
/-- loop.example/g00849/spec.DeltasOf -/
def F58 : F := ⟨3, 22, [.t 6, .t 7],
 .seq (.reg [⟨(some 3), .box (.t 0), none, 0, 0, []⟩,
   ⟨(some 6), .nil0 true 3, none, 256, 1, []⟩,
   ⟨(some 7), .mv (.k (.int .i64 0)), none, 512, 2, []⟩])
 (.seq (.seq (.reg [⟨(some 8), .load 5 true (.t 3), none, 65536, 0, []⟩,
   ⟨(some 9), .call 103 [(.t 8)] true, none, 65792, 1, []⟩,
   ⟨(some 10), .not (.t 9), none, 66048, 2, []⟩])
 (.cond (.t 10)
  (.seq (.reg [⟨(some 11), .bslice true 3 [(.int .i64 0), (.int .i64 0), (.str ByteArray.empty)] 0 [], none, 131072, 0, []⟩,
    ⟨(some 6), .mv (.t 11), none, 131328, 1, []⟩,
    ⟨(some 7), .mv (.k (.int .i64 1)), none, 131584, 2, []⟩])
  (.ret))
  (.skip)))
 (.seq (.seq (.reg [⟨(some 12), .load 5 true (.t 3), none, 196608, 0, []⟩,
   ⟨(some 13), .mv (.t 1), none, 196864, 1, []⟩,
   ⟨(some 14), .mv (.t 2), none, 197120, 2, []⟩,
   ⟨(some 15), .call 113 [(.t 12), (.t 13), (.t 14)] true, none, 197376, 3, []⟩,
   ⟨(some 16), .not (.t 15), none, 197632, 4, []⟩])
 (.cond (.t 16)
  (.seq (.reg [⟨(some 17), .bslice true 3 [(.int .i64 0), (.int .i64 0), (.str ByteArray.empty)] 0 [], none, 262144, 0, []⟩,
    ⟨(some 6), .mv (.t 17), none, 262400, 1, []⟩,
    ⟨(some 7), .mv (.k (.int .i64 2)), none, 262656, 2, []⟩])
  (.ret))
  (.skip)))
 (.seq (.reg [⟨(some 18), .load 5 true (.t 3), none, 327680, 0, []⟩,
   ⟨(some 19), .mv (.t 1), none, 327936, 1, []⟩,
   ⟨(some 20), .mv (.t 2), none, 328192, 2, []⟩,
   ⟨(some 21), .call 114 [(.t 18), (.t 19), (.t 20)] false, none, 328448, 3, []⟩,
   ⟨(some 6), .mv (.t 21), none, 328704, 4, []⟩,
   ⟨(some 7), .mv (.k (.int .i64 0)), none, 328960, 5, []⟩])
 (.ret))))⟩
/-- loop.example/g00849/impl.DeltasOf -/
def F59 : F := ⟨3, 58, [.t 6, .t 7],
 .seq (.reg [⟨(some 3), .box (.t 0), none, 0, 0, []⟩,
   ⟨(some 6), .nil0 true 3, none, 256, 1, []⟩,
   ⟨(some 7), .mv (.k (.int .i64 0)), none, 512, 2, []⟩])
 (.seq (.block 0 (.seq (.reg [⟨(some 11), .load 5 true (.t 3), none, 65536, 0, []⟩,
   ⟨(some 12), .call 49 [(.t 11)] true, none, 65792, 1, []⟩,
   ⟨(some 13), .not (.t 12), none, 66048, 2, []⟩,
   ⟨(some 10), .mv (.t 13), none, 66304, 3, []⟩])
 (.cond (.t 10)
  (.seq (.reg [⟨(some 6), .nil0 true 3, none, 131072, 0, []⟩,
    ⟨(some 7), .mv (.k (.int .i64 1)), none, 131328, 1, []⟩])
  (.ret))
  (.seq (.reg [⟨(some 15), .mv (.t 1), none, 196608, 0, []⟩,
    ⟨(some 16), .faddr 3 (.t 3), none, 196864, 1, []⟩,
    ⟨(some 17), .load 1 false (.t 16), none, 197120, 2, []⟩,
    ⟨(some 18), .call 86 [(.t 15), (.k (.int .i64 0)), (.t 17)] true, none, 197376, 3, []⟩,
    ⟨(some 19), .not (.t 18), none, 197632, 4, []⟩,
    ⟨(some 20), .mv (.t 19), none, 197888, 5, []⟩,
    ⟨(some 21), .mv (.t 2), (some (some 20, false)), 198144, 6, []⟩,
    ⟨(some 22), .len true (.t 21), (some (some 20, false)), 198400, 7, []⟩,
    ⟨(some 23), .faddr 3 (.t 3), (some (some 20, false)), 198656, 8, []⟩,
    ⟨(some 24), .load 1 false (.t 23), (some (some 20, false)), 198912, 9, []⟩,
    ⟨(some 25), .mv (.t 1), (some (some 20, false)), 199168, 10, []⟩,
    ⟨(some 26), .bin .sub (.t 24) (.t 25), (some (some 20, false)), 199424, 11, []⟩,
    ⟨(some 27), .bin .gtr (.t 22) (.t 26), (some (some 20, false)), 199680, 12, []⟩,
    ⟨(some 28), .pick (.t 20) (.k (.bool true)) (.t 27), none, 199936, 13, []⟩,
    ⟨(some 14), .mv (.t 28), none, 200192, 14, []⟩])
  (.cond (.t 14)
   (.seq (.reg [⟨(some 6), .nil0 true 3, none, 262144, 0, []⟩,
     ⟨(some 7), .mv (.k (.int .i64 2)), none, 262400, 1, []⟩])
   (.ret))
   (.seq (.reg [⟨(some 30), .mv (.t 2), none, 327680, 0, []⟩,
     ⟨(some 31), .bin .eql (.t 30) (.k (.str ByteArray.empty)), none, 327936, 1, []⟩,
     ⟨(some 29), .mv (.t 31), none, 328192, 2, []⟩])
   (.cond (.t 29)
    (.seq (.reg [⟨(some 6), .nil0 true 3, none, 393216, 0, []⟩,
      ⟨(some 7), .mv (.k (.int .i64 0)), none, 393472, 1, []⟩])
    (.ret))
    (.skip))))))))
 (.seq (.reg [⟨(some 8), .nil0 true 3, none, 458752, 0, []⟩])
 (.seq (.seq (.reg [⟨(some 32), .mv (.t 1), none, 524288, 0, []⟩,
   ⟨(some 33), .load 5 true (.t 3), none, 524544, 1, []⟩,
   ⟨(some 34), .call 115 [(.t 33)] true, none, 524800, 2, []⟩,
   ⟨(some 35), .bin .quo (.t 32) (.t 34), none, 525056, 3, []⟩,
   ⟨(some 9), .mv (.t 35), none, 525312, 4, []⟩])
 (.block 1 (.loop [1, 2, 3, 8, 9] [0, 1, 2, 3, 4, 5, 256, 131072, 262144, 393216, 458752]
  (.seq (.seq (.reg [⟨(some 36), .mv (.t 9), none, 589824, 0, []⟩,
    ⟨(some 37), .load 5 true (.t 3), none, 590080, 1, []⟩,
    ⟨(some 38), .call 115 [(.t 37)] true, none, 590336, 2, []⟩,
    ⟨(some 39), .bin .mul (.t 36) (.t 38), none, 590592, 3, []⟩,
    ⟨(some 40), .mv (.t 1), none, 590848, 4, []⟩,
    ⟨(some 41), .mv (.t 2), none, 591104, 5, []⟩,
    ⟨(some 42), .len true (.t 41), none, 591360, 6, []⟩,
    ⟨(some 43), .bin .add (.t 40) (.t 42), none, 591616, 7, []⟩,
    ⟨(some 44), .bin .lss (.t 39) (.t 43), none, 591872, 8, []⟩])
  (.cond (.t 44)
   (.skip)
   (.exit 1)))
  (.seq (.block 2 (.reg [⟨(some 47), .mv (.t 8), none, 720896, 0, []⟩,
    ⟨(some 48), .load 5 true (.t 3), none, 721152, 1, []⟩,
    ⟨(some 49), .mv (.t 9), none, 721408, 2, []⟩,
    ⟨(some 50), .load 5 true (.t 3), none, 721664, 3, []⟩,
    ⟨(some 51), .mv (.t 9), none, 721920, 4, []⟩,
    ⟨(some 52), .mv (.t 1), none, 722176, 5, []⟩,
    ⟨(some 53), .mv (.t 2), none, 722432, 6, []⟩,
    ⟨(some 54), .call 117 [(.t 50), (.t 51), (.t 52), (.t 53)] false, none, 722688, 7, []⟩,
    ⟨(some 55), .call 116 [(.t 48), (.t 49), (.t 54)] false, none, 722944, 8, []⟩,
    ⟨(some 56), .app true 3 32 (.t 47) (.t 55), none, 723200, 9, []⟩,
    ⟨(some 8), .mv (.t 56), none, 723456, 10, []⟩]))
  (.reg [⟨(some 45), .mv (.t 9), none, 655360, 0, []⟩,
    ⟨(some 46), .bin .add (.t 45) (.k (.int .i64 1)), none, 655616, 1, []⟩,
    ⟨(some 9), .mv (.t 46), none, 655872, 2, []⟩]))))))
 (.seq (.reg [⟨(some 57), .mv (.t 8), none, 786432, 0, []⟩,
   ⟨(some 6), .mv (.t 57), none, 786688, 1, []⟩,
   ⟨(some 7), .mv (.k (.int .i64 0)), none, 786944, 2, []⟩])
 (.ret)))))⟩
/-- loop.example/g00849/laws.eqDeltaS -/
def F60 : F := ⟨2, 27, [.t 4],
 .seq (.reg [⟨(some 4), .mv (.k (.bool false)), none, 0, 0, []⟩])
 (.seq (.seq (.reg [⟨(some 6), .mv (.t 0), none, 65536, 0, []⟩,
   ⟨(some 7), .len false (.t 6), none, 65792, 1, []⟩,
   ⟨(some 8), .mv (.t 1), none, 66048, 2, []⟩,
   ⟨(some 9), .len false (.t 8), none, 66304, 3, []⟩,
   ⟨(some 10), .bin .neq (.t 7) (.t 9), none, 66560, 4, []⟩])
 (.cond (.t 10)
  (.seq (.reg [⟨(some 4), .mv (.k (.bool false)), none, 131072, 0, []⟩])
  (.ret))
  (.skip)))
 (.seq (.seq (.reg [⟨(some 5), .mv (.k (.int .i64 0)), none, 196608, 0, []⟩])
 (.block 0 (.loop [0, 1, 5] []
  (.seq (.seq (.reg [⟨(some 11), .mv (.t 5), none, 262144, 0, []⟩,
    ⟨(some 12), .mv (.t 0), none, 262400, 1, []⟩,
    ⟨(some 13), .len false (.t 12), none, 262656, 2, []⟩,
    ⟨(some 14), .bin .lss (.t 11) (.t 13), none, 262912, 3, []⟩])
  (.cond (.t 14)
   (.skip)
   (.exit 0)))
  (.seq (.block 1 (.seq (.reg [⟨(some 17), .mv (.t 0), none, 393216, 0, []⟩,
    ⟨(some 18), .mv (.t 5), none, 393472, 1, []⟩,
    ⟨(some 19), .iaddr 3 (.t 17) (.t 18), none, 393728, 2, []⟩,
    ⟨(some 20), .load 3 true (.t 19), none, 393984, 3, []⟩,
    ⟨(some 21), .mv (.t 1), none, 394240, 4, []⟩,
    ⟨(some 22), .mv (.t 5), none, 394496, 5, []⟩,
    ⟨(some 23), .iaddr 3 (.t 21) (.t 22), none, 394752, 6, []⟩,
    ⟨(some 24), .load 3 true (.t 23), none, 395008, 7, []⟩,
    ⟨(some 25), .call 118 [(.t 20), (.t 24)] true, none, 395264, 8, []⟩,
    ⟨(some 26), .not (.t 25), none, 395520, 9, []⟩])
  (.cond (.t 26)
   (.seq (.reg [⟨(some 4), .mv (.k (.bool false)), none, 458752, 0, []⟩])
   (.ret))
   (.skip))))
  (.reg [⟨(some 15), .mv (.t 5), none, 327680, 0, []⟩,
    ⟨(some 16), .bin .add (.t 15) (.k (.int .i64 1)), none, 327936, 1, []⟩,
    ⟨(some 5), .mv (.t 16), none, 328192, 2, []⟩]))))))
 (.seq (.reg [⟨(some 4), .mv (.k (.bool true)), none, 524288, 0, []⟩])
 (.ret))))⟩
/-- loop.example/g00849/laws.markDeltaS -/
def F61 : F := ⟨2, 35, [.t 4],
 .seq (.reg [⟨(some 4), .mv (.k (.int .i64 0)), none, 0, 0, []⟩])
 (.seq (.seq (.reg [⟨(some 5), .mv (.k (.int .i64 0)), none, 65536, 0, []⟩])
 (.block 0 (.loop [0, 1, 5] []
  (.seq (.seq (.reg [⟨(some 6), .mv (.t 5), none, 131072, 0, []⟩,
    ⟨(some 7), .mv (.t 0), none, 131328, 1, []⟩,
    ⟨(some 8), .len false (.t 7), none, 131584, 2, []⟩,
    ⟨(some 9), .bin .lss (.t 6) (.t 8), none, 131840, 3, []⟩])
  (.cond (.t 9)
   (.skip)
   (.exit 0)))
  (.seq (.block 1 (.seq (.reg [⟨(some 12), .mv (.t 0), none, 262144, 0, []⟩,
    ⟨(some 13), .mv (.t 5), none, 262400, 1, []⟩,
    ⟨(some 14), .mv (.t 1), none, 262656, 2, []⟩,
    ⟨(some 15), .iaddr 3 (.t 12) (.t 13), none, 262912, 3, []⟩,
    ⟨(some 16), .faddr 0 (.t 15), none, 263168, 4, []⟩,
    ⟨none, .store 1 (.t 16) (.t 14), none, 263424, 5, []⟩])
  (.seq (.reg [⟨(some 17), .mv (.t 1), none, 327680, 0, []⟩,
    ⟨(some 18), .bin .add (.t 17) (.k (.int .i64 1)), none, 327936, 1, []⟩,
    ⟨(some 1), .mv (.t 18), none, 328192, 2, []⟩])
  (.seq (.reg [⟨(some 19), .mv (.t 0), none, 393216, 0, []⟩,
    ⟨(some 20), .mv (.t 5), none, 393472, 1, []⟩,
    ⟨(some 21), .mv (.t 1), none, 393728, 2, []⟩,
    ⟨(some 22), .iaddr 3 (.t 19) (.t 20), none, 393984, 3, []⟩,
    ⟨(some 23), .faddr 1 (.t 22), none, 394240, 4, []⟩,
    ⟨none, .store 1 (.t 23) (.t 21), none, 394496, 5, []⟩])
  (.seq (.reg [⟨(some 24), .mv (.t 1), none, 458752, 0, []⟩,
    ⟨(some 25), .bin .add (.t 24) (.k (.int .i64 1)), none, 459008, 1, []⟩,
    ⟨(some 1), .mv (.t 25), none, 459264, 2, []⟩])
  (.seq (.reg [⟨(some 26), .mv (.t 0), none, 524288, 0, []⟩,
    ⟨(some 27), .mv (.t 5), none, 524544, 1, []⟩,
    ⟨(some 28), .mv (.t 1), none, 524800, 2, []⟩,
    ⟨(some 29), .call 81 [(.t 28)] true, none, 525056, 3, []⟩,
    ⟨(some 30), .iaddr 3 (.t 26) (.t 27), none, 525312, 4, []⟩,
    ⟨(some 31), .faddr 2 (.t 30), none, 525568, 5, []⟩,
    ⟨none, .store 1 (.t 31) (.t 29), none, 525824, 6, []⟩])
  (.reg [⟨(some 32), .mv (.t 1), none, 589824, 0, []⟩,
    ⟨(some 33), .bin .add (.t 32) (.k (.int .i64 1)), none, 590080, 1, []⟩,
    ⟨(some 1), .mv (.t 33), none, 590336, 2, []⟩])))))))
  (.reg [⟨(some 10), .mv (.t 5), none, 196608, 0, []⟩,
    ⟨(some 11), .bin .add (.t 10) (.k (.int .i64 1)), none, 196864, 1, []⟩,
    ⟨(some 5), .mv (.t 11), none, 197120, 2, []⟩]))))))
 (.seq (.reg [⟨(some 34), .mv (.t 1), none, 655360, 0, []⟩,
   ⟨(some 4), .mv (.t 34), none, 655616, 1, []⟩])
 (.ret)))⟩
/-- loop.example/g00849/laws.heldDeltaS -/
def F62 : F := ⟨2, 41, [.t 4],
 .seq (.reg [⟨(some 4), .mv (.k (.int .i64 0)), none, 0, 0, []⟩])
 (.seq (.seq (.reg [⟨(some 5), .mv (.k (.int .i64 0)), none, 65536, 0, []⟩])
 (.block 0 (.loop [0, 1, 5] []
  (.seq (.seq (.reg [⟨(some 6), .mv (.t 5), none, 131072, 0, []⟩,
    ⟨(some 7), .mv (.t 0), none, 131328, 1, []⟩,
    ⟨(some 8), .len false (.t 7), none, 131584, 2, []⟩,
    ⟨(some 9), .bin .lss (.t 6) (.t 8), none, 131840, 3, []⟩])
  (.cond (.t 9)
   (.skip)
   (.exit 0)))
  (.seq (.block 1 (.seq (.seq (.reg [⟨(some 12), .mv (.t 0), none, 262144, 0, []⟩,
    ⟨(some 13), .mv (.t 5), none, 262400, 1, []⟩,
    ⟨(some 14), .iaddr 3 (.t 12) (.t 13), none, 262656, 2, []⟩,
    ⟨(some 15), .faddr 0 (.t 14), none, 262912, 3, []⟩,
    ⟨(some 16), .load 1 false (.t 15), none, 263168, 4, []⟩,
    ⟨(some 17), .mv (.t 1), none, 263424, 5, []⟩,
    ⟨(some 18), .bin .neq (.t 16) (.t 17), none, 263680, 6, []⟩])
  (.cond (.t 18)
   (.seq (.reg [⟨(some 4), .mv (.k (.int .i64 (-1))), none, 327680, 0, []⟩])
   (.ret))
   (.skip)))
  (.seq (.reg [⟨(some 19), .mv (.t 1), none, 393216, 0, []⟩,
    ⟨(some 20), .bin .add (.t 19) (.k (.int .i64 1)), none, 393472, 1, []⟩,
    ⟨(some 1), .mv (.t 20), none, 393728, 2, []⟩])
  (.seq (.seq (.reg [⟨(some 21), .mv (.t 0), none, 458752, 0, []⟩,
    ⟨(some 22), .mv (.t 5), none, 459008, 1, []⟩,
    ⟨(some 23), .iaddr 3 (.t 21) (.t 22), none, 459264, 2, []⟩,
    ⟨(some 24), .faddr 1 (.t 23), none, 459520, 3, []⟩,
    ⟨(some 25), .load 1 false (.t 24), none, 459776, 4, []⟩,
    ⟨(some 26), .mv (.t 1), none, 460032, 5, []⟩,
    ⟨(some 27), .bin .neq (.t 25) (.t 26), none, 460288, 6, []⟩])
  (.cond (.t 27)
   (.seq (.reg [⟨(some 4), .mv (.k (.int .i64 (-1))), none, 524288, 0, []⟩])
   (.ret))
   (.skip)))
  (.seq (.reg [⟨(some 28), .mv (.t 1), none, 589824, 0, []⟩,
    ⟨(some 29), .bin .add (.t 28) (.k (.int .i64 1)), none, 590080, 1, []⟩,
    ⟨(some 1), .mv (.t 29), none, 590336, 2, []⟩])
  (.seq (.seq (.reg [⟨(some 30), .mv (.t 0), none, 655360, 0, []⟩,
    ⟨(some 31), .mv (.t 5), none, 655616, 1, []⟩,
    ⟨(some 32), .iaddr 3 (.t 30) (.t 31), none, 655872, 2, []⟩,
    ⟨(some 33), .faddr 2 (.t 32), none, 656128, 3, []⟩,
    ⟨(some 34), .load 1 false (.t 33), none, 656384, 4, []⟩,
    ⟨(some 35), .mv (.t 1), none, 656640, 5, []⟩,
    ⟨(some 36), .call 81 [(.t 35)] true, none, 656896, 6, []⟩,
    ⟨(some 37), .bin .neq (.t 34) (.t 36), none, 657152, 7, []⟩])
  (.cond (.t 37)
   (.seq (.reg [⟨(some 4), .mv (.k (.int .i64 (-1))), none, 720896, 0, []⟩])
   (.ret))
   (.skip)))
  (.reg [⟨(some 38), .mv (.t 1), none, 786432, 0, []⟩,
    ⟨(some 39), .bin .add (.t 38) (.k (.int .i64 1)), none, 786688, 1, []⟩,
    ⟨(some 1), .mv (.t 39), none, 786944, 2, []⟩])))))))
  (.reg [⟨(some 10), .mv (.t 5), none, 196608, 0, []⟩,
    ⟨(some 11), .bin .add (.t 10) (.k (.int .i64 1)), none, 196864, 1, []⟩,
    ⟨(some 5), .mv (.t 11), none, 197120, 2, []⟩]))))))
 (.seq (.reg [⟨(some 40), .mv (.t 1), none, 851968, 0, []⟩,
   ⟨(some 4), .mv (.t 40), none, 852224, 1, []⟩])
 (.ret)))⟩
/-- loop.example/g00849/spec.WriteWide -/
def F63 : F := ⟨3, 42, [.cell 6 5 true, .t 7],
 .seq (.reg [⟨(some 3), .box (.t 0), none, 0, 0, []⟩,
   ⟨(some 6), .alloc [(.int .i64 0), (.int .i64 0), (.int .i64 0), (.int .i64 0), (.nil true 1)], none, 256, 1, []⟩,
   ⟨(some 7), .mv (.k (.int .i64 0)), none, 512, 2, []⟩])
 (.seq (.seq (.reg [⟨(some 10), .load 5 true (.t 3), none, 65536, 0, []⟩,
   ⟨(some 11), .call 103 [(.t 10)] true, none, 65792, 1, []⟩,
   ⟨(some 12), .not (.t 11), none, 66048, 2, []⟩])
 (.cond (.t 12)
  (.seq (.reg [⟨(some 13), .build [(.int .i64 0), (.int .i64 0), (.int .i64 0), (.int .i64 0), (.nil true 1)] [], none, 131072, 0, []⟩,
    ⟨none, .store 5 (.t 6) (.t 13), none, 131328, 1, []⟩,
    ⟨(some 7), .mv (.k (.int .i64 1)), none, 131584, 2, []⟩])
  (.ret))
  (.skip)))
 (.seq (.seq (.reg [⟨(some 14), .load 5 true (.t 3), none, 196608, 0, []⟩,
   ⟨(some 15), .mv (.t 1), none, 196864, 1, []⟩,
   ⟨(some 16), .mv (.t 2), none, 197120, 2, []⟩,
   ⟨(some 17), .call 113 [(.t 14), (.t 15), (.t 16)] true, none, 197376, 3, []⟩,
   ⟨(some 18), .not (.t 17), none, 197632, 4, []⟩])
 (.cond (.t 18)
  (.seq (.reg [⟨(some 19), .build [(.int .i64 0), (.int .i64 0), (.int .i64 0), (.int .i64 0), (.nil true 1)] [], none, 262144, 0, []⟩,
    ⟨none, .store 5 (.t 6) (.t 19), none, 262400, 1, []⟩,
    ⟨(some 7), .mv (.k (.int .i64 2)), none, 262656, 2, []⟩])
  (.ret))
  (.skip)))
 (.seq (.reg [⟨(some 20), .load 5 true (.t 3), none, 327680, 0, []⟩,
   ⟨(some 21), .mv (.t 1), none, 327936, 1, []⟩,
   ⟨(some 22), .mv (.t 2), none, 328192, 2, []⟩,
   ⟨(some 23), .call 114 [(.t 20), (.t 21), (.t 22)] false, none, 328448, 3, []⟩,
   ⟨(some 8), .mv (.t 23), none, 328704, 4, []⟩])
 (.seq (.reg [⟨(some 24), .bslice true 1 [(.str ByteArray.empty)] 0 [], none, 393216, 0, []⟩,
   ⟨(some 25), .faddr 4 (.t 3), none, 393472, 1, []⟩,
   ⟨(some 26), .load 1 false (.t 25), none, 393728, 2, []⟩,
   ⟨(some 27), .app true 1 16 (.t 24) (.t 26), none, 393984, 3, []⟩,
   ⟨(some 28), .faddr 4 (.t 3), none, 394240, 4, []⟩,
   ⟨none, .store 1 (.t 28) (.t 27), none, 394496, 5, []⟩])
 (.seq (.seq (.reg [⟨(some 9), .mv (.k (.int .i64 0)), none, 458752, 0, []⟩])
 (.block 0 (.loop [3, 6, 8, 9] [0, 256, 261, 328448, 393216]
  (.seq (.seq (.seq (.reg [⟨(some 29), .mv (.t 9), none, 524288, 0, []⟩,
    ⟨(some 30), .mv (.t 8), none, 524544, 1, []⟩,
    ⟨(some 31), .len false (.t 30), none, 524800, 2, []⟩,
    ⟨(some 32), .bin .lss (.t 29) (.t 31), none, 525056, 3, []⟩])
  (.cond (.t 32)
   (.skip)
   (.exit 0)))
  (.seq (.block 1 (.reg [⟨(some 35), .load 5 true (.t 3), none, 655360, 0, []⟩,
    ⟨(some 36), .mv (.t 8), none, 655616, 1, []⟩,
    ⟨(some 37), .mv (.t 9), none, 655872, 2, []⟩,
    ⟨(some 38), .iaddr 3 (.t 36) (.t 37), none, 656128, 3, []⟩,
    ⟨(some 39), .load 3 true (.t 38), none, 656384, 4, []⟩,
    ⟨(some 40), .call 119 [(.t 35), (.t 39)] false, none, 656640, 5, []⟩,
    ⟨none, .store 5 (.t 3) (.t 40), none, 656896, 6, []⟩]))
  (.reg [⟨(some 33), .mv (.t 9), none, 589824, 0, []⟩,
    ⟨(some 34), .bin .add (.t 33) (.k (.int .i64 1)), none, 590080, 1, []⟩,
    ⟨(some 9), .mv (.t 34), none, 590336, 2, []⟩])))
  (.ren 656640 393216)))))
 (.seq (.reg [⟨(some 41), .load 5 true (.t 3), none, 720896, 0, []⟩,
   ⟨none, .store 5 (.t 6) (.t 41), none, 721152, 1, []⟩,
   ⟨(some 7), .mv (.k (.int .i64 0)), none, 721408, 2, []⟩])
 (.ret)))))))⟩
/-- loop.example/g00849/impl.WriteWide -/
def F64 : F := ⟨3, 38, [.cell 6 5 true, .t 7],
 .seq (.reg [⟨(some 3), .box (.t 0), none, 0, 0, []⟩,
   ⟨(some 6), .alloc [(.int .i64 0), (.int .i64 0), (.int .i64 0), (.int .i64 0), (.nil true 1)], none, 256, 1, []⟩,
   ⟨(some 7), .mv (.k (.int .i64 0)), none, 512, 2, []⟩])
 (.seq (.reg [⟨(some 13), .load 5 true (.t 3), none, 65536, 0, []⟩,
   ⟨(some 14), .mv (.t 1), none, 65792, 1, []⟩,
   ⟨(some 15), .mv (.t 2), none, 66048, 2, []⟩,
   ⟨(some 16), .call 59 [(.t 13), (.t 14), (.t 15)] false, none, 66304, 3, []⟩,
   ⟨(some 12), .mv (.t 16), none, 66560, 4, []⟩,
   ⟨(some 17), .ext (.t 12) 0, none, 66816, 5, []⟩,
   ⟨(some 18), .ext (.t 12) 1, none, 67072, 6, []⟩,
   ⟨(some 8), .mv (.t 17), none, 67328, 7, []⟩,
   ⟨(some 9), .mv (.t 18), none, 67584, 8, []⟩])
 (.seq (.seq (.reg [⟨(some 19), .mv (.t 9), none, 131072, 0, []⟩,
   ⟨(some 20), .bin .neq (.t 19) (.k (.int .i64 0)), none, 131328, 1, []⟩])
 (.cond (.t 20)
  (.seq (.reg [⟨(some 21), .build [(.int .i64 0), (.int .i64 0), (.int .i64 0), (.int .i64 0), (.nil true 1)] [], none, 196608, 0, []⟩,
    ⟨(some 22), .mv (.t 9), none, 196864, 1, []⟩,
    ⟨none, .store 5 (.t 6) (.t 21), none, 197120, 2, []⟩,
    ⟨(some 7), .mv (.t 22), none, 197376, 3, []⟩])
  (.ret))
  (.skip)))
 (.seq (.reg [⟨(some 23), .faddr 4 (.t 3), none, 262144, 0, []⟩,
   ⟨(some 24), .load 1 false (.t 23), none, 262400, 1, []⟩,
   ⟨(some 25), .call 120 [(.t 24)] false, none, 262656, 2, []⟩,
   ⟨(some 26), .faddr 4 (.t 3), none, 262912, 3, []⟩,
   ⟨none, .store 1 (.t 26) (.t 25), none, 263168, 4, []⟩])
 (.seq (.seq (.reg [⟨(some 27), .mv (.t 8), none, 327680, 0, []⟩,
   ⟨(some 28), .len false (.t 27), none, 327936, 1, []⟩,
   ⟨(some 29), .mv (.k (.int .i64 0)), none, 328192, 2, []⟩])
 (.block 0 (.loop [3, 6, 27, 28, 29] [0, 256, 261, 66304, 262656]
  (.seq (.seq (.reg [⟨(some 30), .bin .lss (.t 29) (.t 28), none, 393216, 0, []⟩])
  (.seq (.cond (.t 30)
   (.skip)
   (.exit 0))
  (.seq (.block 1 (.seq (.reg [⟨(some 31), .iaddr 3 (.t 27) (.t 29), none, 458752, 0, []⟩,
    ⟨(some 32), .load 3 true (.t 31), none, 459008, 1, []⟩,
    ⟨(some 11), .alloc [(.int .i64 0), (.int .i64 0), (.str ByteArray.empty)], none, 459264, 2, []⟩,
    ⟨none, .store 3 (.t 11) (.t 32), none, 459520, 3, []⟩])
  (.reg [⟨(some 33), .load 5 true (.t 3), none, 524288, 0, []⟩,
    ⟨(some 34), .load 3 true (.t 11), none, 524544, 1, []⟩,
    ⟨(some 35), .call 121 [(.t 33), (.t 34)] false, none, 524800, 2, []⟩,
    ⟨none, .store 5 (.t 3) (.t 35), none, 525056, 3, []⟩])))
  (.reg [⟨(some 36), .bin .add (.t 29) (.k (.int .i64 1)), none, 589824, 0, []⟩,
    ⟨(some 29), .mv (.t 36), none, 590080, 1, []⟩]))))
  (.ren 524800 262656)))))
 (.seq (.reg [⟨(some 37), .load 5 true (.t 3), none, 655360, 0, []⟩,
   ⟨none, .store 5 (.t 6) (.t 37), none, 655616, 1, []⟩,
   ⟨(some 7), .mv (.k (.int .i64 0)), none, 655872, 2, []⟩])
 (.ret))))))⟩
/-- loop.example/g00849/spec.A8Word -/
def F65 : F := ⟨1, 8, [.t 2],
 .seq (.reg [⟨(some 2), .mv (.k (.str ByteArray.empty)), none, 0, 0, []⟩])
 (.seq (.reg [⟨(some 4), .mv (.t 0), none, 65536, 0, []⟩,
   ⟨(some 5), .call 82 [(.t 4)] false, none, 65792, 1, []⟩,
   ⟨(some 3), .mv (.t 5), none, 66048, 2, []⟩])
 (.seq (.reg [⟨(some 6), .mv (.t 3), none, 131072, 0, []⟩,
   ⟨(some 7), .call 122 [(.t 6), (.k (.int .i64 40))] true, none, 131328, 1, []⟩,
   ⟨(some 2), .mv (.t 7), none, 131584, 2, []⟩])
 (.ret)))⟩
/-- loop.example/g00849/laws.a8Mix -/
def F66 : F := ⟨2, 10, [.t 4],
 .seq (.reg [⟨(some 4), .nil0 true 1, none, 0, 0, []⟩])
 (.seq (.reg [⟨(some 5), .mv (.t 0), none, 65536, 0, []⟩,
   ⟨(some 6), .conv .u8 (.t 5), none, 65792, 1, []⟩,
   ⟨(some 7), .bslice true 1 [(.int .u8 0)] 1 [(0, (.t 6))], none, 66048, 2, []⟩,
   ⟨(some 8), .mv (.t 1), none, 66304, 3, []⟩,
   ⟨(some 9), .app true 1 1 (.t 7) (.t 8), none, 66560, 4, []⟩,
   ⟨(some 4), .mv (.t 9), none, 66816, 5, []⟩])
 (.ret))⟩
/-- loop.example/g00849/laws.a8SameTexts -/
def F67 : F := ⟨2, 26, [.t 4],
 .seq (.reg [⟨(some 4), .mv (.k (.bool false)), none, 0, 0, []⟩])
 (.seq (.seq (.reg [⟨(some 6), .mv (.t 0), none, 65536, 0, []⟩,
   ⟨(some 7), .len false (.t 6), none, 65792, 1, []⟩,
   ⟨(some 8), .mv (.t 1), none, 66048, 2, []⟩,
   ⟨(some 9), .len false (.t 8), none, 66304, 3, []⟩,
   ⟨(some 10), .bin .neq (.t 7) (.t 9), none, 66560, 4, []⟩])
 (.cond (.t 10)
  (.seq (.reg [⟨(some 4), .mv (.k (.bool false)), none, 131072, 0, []⟩])
  (.ret))
  (.skip)))
 (.seq (.seq (.reg [⟨(some 5), .mv (.k (.int .i64 0)), none, 196608, 0, []⟩])
 (.block 0 (.loop [0, 1, 5] []
  (.seq (.seq (.reg [⟨(some 11), .mv (.t 5), none, 262144, 0, []⟩,
    ⟨(some 12), .mv (.t 0), none, 262400, 1, []⟩,
    ⟨(some 13), .len false (.t 12), none, 262656, 2, []⟩,
    ⟨(some 14), .bin .lss (.t 11) (.t 13), none, 262912, 3, []⟩])
  (.cond (.t 14)
   (.skip)
   (.exit 0)))
  (.seq (.block 1 (.seq (.reg [⟨(some 17), .mv (.t 0), none, 393216, 0, []⟩,
    ⟨(some 18), .mv (.t 5), none, 393472, 1, []⟩,
    ⟨(some 19), .iaddr 1 (.t 17) (.t 18), none, 393728, 2, []⟩,
    ⟨(some 20), .load 1 false (.t 19), none, 393984, 3, []⟩,
    ⟨(some 21), .mv (.t 1), none, 394240, 4, []⟩,
    ⟨(some 22), .mv (.t 5), none, 394496, 5, []⟩,
    ⟨(some 23), .iaddr 1 (.t 21) (.t 22), none, 394752, 6, []⟩,
    ⟨(some 24), .load 1 false (.t 23), none, 395008, 7, []⟩,
    ⟨(some 25), .bin .neq (.t 20) (.t 24), none, 395264, 8, []⟩])
  (.cond (.t 25)
   (.seq (.reg [⟨(some 4), .mv (.k (.bool false)), none, 458752, 0, []⟩])
   (.ret))
   (.skip))))
  (.reg [⟨(some 15), .mv (.t 5), none, 327680, 0, []⟩,
    ⟨(some 16), .bin .add (.t 15) (.k (.int .i64 1)), none, 327936, 1, []⟩,
    ⟨(some 5), .mv (.t 16), none, 328192, 2, []⟩]))))))
 (.seq (.reg [⟨(some 4), .mv (.k (.bool true)), none, 524288, 0, []⟩])
 (.ret))))⟩
/-- loop.example/g00849/impl.TakeDelta -/
def F68 : F := ⟨2, 41, [.cell 4 5 true, .t 5],
 .seq (.reg [⟨(some 2), .box (.t 0), none, 0, 0, []⟩,
   ⟨(some 3), .box (.t 1), none, 256, 1, []⟩,
   ⟨(some 4), .alloc [(.int .i64 0), (.int .i64 0), (.int .i64 0), (.int .i64 0), (.nil true 1)], none, 512, 2, []⟩,
   ⟨(some 5), .mv (.k (.int .i64 0)), none, 768, 3, []⟩])
 (.seq (.block 0 (.seq (.reg [⟨(some 7), .load 5 true (.t 2), none, 65536, 0, []⟩,
   ⟨(some 8), .call 49 [(.t 7)] true, none, 65792, 1, []⟩,
   ⟨(some 9), .not (.t 8), none, 66048, 2, []⟩,
   ⟨(some 6), .mv (.t 9), none, 66304, 3, []⟩])
 (.cond (.t 6)
  (.seq (.reg [⟨(some 10), .build [(.int .i64 0), (.int .i64 0), (.int .i64 0), (.int .i64 0), (.nil true 1)] [], none, 131072, 0, []⟩,
    ⟨none, .store 5 (.t 4) (.t 10), none, 131328, 1, []⟩,
    ⟨(some 5), .mv (.k (.int .i64 1)), none, 131584, 2, []⟩])
  (.ret))
  (.seq (.reg [⟨(some 12), .faddr 0 (.t 2), none, 196608, 0, []⟩,
    ⟨(some 13), .load 2 true (.t 12), none, 196864, 1, []⟩,
    ⟨(some 14), .faddr 0 (.t 3), none, 197120, 2, []⟩,
    ⟨(some 15), .load 1 false (.t 14), none, 197376, 3, []⟩,
    ⟨(some 16), .call 79 [(.t 13), (.t 15)] true, none, 197632, 4, []⟩,
    ⟨(some 17), .not (.t 16), none, 197888, 5, []⟩,
    ⟨(some 18), .mv (.t 17), none, 198144, 6, []⟩,
    ⟨(some 19), .faddr 1 (.t 3), (some (some 18, false)), 198400, 7, []⟩,
    ⟨(some 20), .load 1 false (.t 19), (some (some 18, false)), 198656, 8, []⟩,
    ⟨(some 21), .load 5 true (.t 2), (some (some 18, false)), 198912, 9, []⟩,
    ⟨(some 22), .call 99 [(.t 21)] true, (some (some 18, false)), 199168, 10, []⟩,
    ⟨(some 23), .call 86 [(.t 20), (.k (.int .i64 0)), (.t 22)] true, (some (some 18, false)), 199424, 11, []⟩,
    ⟨(some 24), .not (.t 23), (some (some 18, false)), 199680, 12, []⟩,
    ⟨(some 25), .pick (.t 18) (.k (.bool true)) (.t 24), none, 199936, 13, []⟩,
    ⟨(some 26), .mv (.t 25), none, 200192, 14, []⟩,
    ⟨(some 27), .faddr 2 (.t 3), (some (some 26, false)), 200448, 15, []⟩,
    ⟨(some 28), .load 1 false (.t 27), (some (some 26, false)), 200704, 16, []⟩,
    ⟨(some 29), .len true (.t 28), (some (some 26, false)), 200960, 17, []⟩,
    ⟨(some 30), .load 5 true (.t 2), (some (some 26, false)), 201216, 18, []⟩,
    ⟨(some 31), .call 99 [(.t 30)] true, (some (some 26, false)), 201472, 19, []⟩,
    ⟨(some 32), .faddr 1 (.t 3), (some (some 26, false)), 201728, 20, []⟩,
    ⟨(some 33), .load 1 false (.t 32), (some (some 26, false)), 201984, 21, []⟩,
    ⟨(some 34), .bin .sub (.t 31) (.t 33), (some (some 26, false)), 202240, 22, []⟩,
    ⟨(some 35), .bin .gtr (.t 29) (.t 34), (some (some 26, false)), 202496, 23, []⟩,
    ⟨(some 36), .pick (.t 26) (.k (.bool true)) (.t 35), none, 202752, 24, []⟩,
    ⟨(some 11), .mv (.t 36), none, 203008, 25, []⟩])
  (.cond (.t 11)
   (.seq (.reg [⟨(some 37), .build [(.int .i64 0), (.int .i64 0), (.int .i64 0), (.int .i64 0), (.nil true 1)] [], none, 262144, 0, []⟩,
     ⟨none, .store 5 (.t 4) (.t 37), none, 262400, 1, []⟩,
     ⟨(some 5), .mv (.k (.int .i64 2)), none, 262656, 2, []⟩])
   (.ret))
   (.skip))))))
 (.seq (.reg [⟨(some 38), .load 5 true (.t 2), none, 327680, 0, []⟩,
   ⟨(some 39), .load 3 true (.t 3), none, 327936, 1, []⟩,
   ⟨(some 40), .call 121 [(.t 38), (.t 39)] false, none, 328192, 2, []⟩,
   ⟨none, .store 5 (.t 4) (.t 40), none, 328448, 3, []⟩,
   ⟨(some 5), .mv (.k (.int .i64 0)), none, 328704, 4, []⟩])
 (.ret)))⟩
/-- loop.example/g00849/spec.l00In -/
def F77 : F := ⟨3, 15, [.t 6],
 .seq (.reg [⟨(some 6), .mv (.k (.bool false)), none, 0, 0, []⟩])
 (.seq (.reg [⟨(some 7), .mv (.t 0), none, 65536, 0, []⟩,
   ⟨(some 8), .mv (.t 1), none, 65792, 1, []⟩,
   ⟨(some 9), .bin .geq (.t 7) (.t 8), none, 66048, 2, []⟩,
   ⟨(some 10), .mv (.t 9), none, 66304, 3, []⟩,
   ⟨(some 11), .mv (.t 0), (some (some 10, true)), 66560, 4, []⟩,
   ⟨(some 12), .mv (.t 2), (some (some 10, true)), 66816, 5, []⟩,
   ⟨(some 13), .bin .leq (.t 11) (.t 12), (some (some 10, true)), 67072, 6, []⟩,
   ⟨(some 14), .pick (.t 10) (.t 13) (.k (.bool false)), none, 67328, 7, []⟩,
   ⟨(some 6), .mv (.t 14), none, 67584, 8, []⟩])
 (.ret))⟩
/-- (loop.example/g00849/impl.Code).isPos -/
def F79 : F := ⟨2, 10, [.t 4],
 .seq (.reg [⟨(some 2), .box (.t 0), none, 0, 0, []⟩,
   ⟨(some 4), .mv (.k (.bool false)), none, 256, 1, []⟩])
 (.seq (.reg [⟨(some 5), .mv (.t 1), none, 65536, 0, []⟩,
   ⟨(some 6), .load 2 true (.t 2), none, 65792, 1, []⟩,
   ⟨(some 7), .call 96 [(.t 6)] true, none, 66048, 2, []⟩,
   ⟨(some 8), .bin .sub (.t 7) (.k (.int .i64 1)), none, 66304, 3, []⟩,
   ⟨(some 9), .call 86 [(.t 5), (.k (.int .i64 0)), (.t 8)] true, none, 66560, 4, []⟩,
   ⟨(some 4), .mv (.t 9), none, 66816, 5, []⟩])
 (.ret))⟩
/-- (loop.example/g00849/impl.Code).encoded -/
def F80 : F := ⟨2, 12, [.t 4],
 .seq (.reg [⟨(some 2), .box (.t 0), none, 0, 0, []⟩,
   ⟨(some 4), .nil0 true 1, none, 256, 1, []⟩])
 (.seq (.reg [⟨(some 5), .faddr 0 (.t 2), none, 65536, 0, []⟩,
   ⟨(some 6), .load 1 false (.t 5), none, 65792, 1, []⟩,
   ⟨(some 7), .faddr 1 (.t 2), none, 66048, 2, []⟩,
   ⟨(some 8), .load 1 false (.t 7), none, 66304, 3, []⟩,
   ⟨(some 9), .call 129 [(.t 6), (.t 8)] false, none, 66560, 4, []⟩,
   ⟨(some 10), .mv (.t 1), none, 66816, 5, []⟩,
   ⟨(some 11), .call 131 [(.t 9), (.t 10)] false, none, 67072, 6, []⟩,
   ⟨(some 4), .mv (.t 11), none, 67328, 7, []⟩])
 (.ret))⟩
/-- loop.example/g00849/laws.markText -/
def F81 : F := ⟨1, 20, [.t 2],
 .seq (.reg [⟨(some 2), .mv (.k (.str ByteArray.empty)), none, 0, 0, []⟩])
 (.seq (.seq (.reg [⟨(some 4), .mv (.t 0), none, 65536, 0, []⟩,
   ⟨(some 5), .bin .leq (.t 4) (.k (.int .i64 0)), none, 65792, 1, []⟩])
 (.cond (.t 5)
  (.seq (.reg [⟨(some 2), .mv (.k (.str ⟨#[109, 48]⟩)), none, 131072, 0, []⟩])
  (.ret))
  (.skip)))
 (.seq (.reg [⟨(some 3), .mv (.k (.str ByteArray.empty)), none, 196608, 0, []⟩])
 (.seq (.block 0 (.loop [0, 3] []
  (.seq (.seq (.reg [⟨(some 6), .mv (.t 0), none, 262144, 0, []⟩,
    ⟨(some 7), .bin .gtr (.t 6) (.k (.int .i64 0)), none, 262400, 1, []⟩])
  (.cond (.t 7)
   (.skip)
   (.exit 0)))
  (.block 1 (.seq (.reg [⟨(some 8), .mv (.t 0), none, 327680, 0, []⟩,
    ⟨(some 9), .bin .rem (.t 8) (.k (.int .i64 10)), none, 327936, 1, []⟩,
    ⟨(some 10), .bin .add (.k (.int .i64 48)) (.t 9), none, 328192, 2, []⟩,
    ⟨(some 11), .conv .u8 (.t 10), none, 328448, 3, []⟩,
    ⟨(some 12), .bslice true 1 [(.int .u8 0)] 1 [(0, (.t 11))], none, 328704, 4, []⟩,
    ⟨(some 13), .b2s (.t 12), none, 328960, 5, []⟩,
    ⟨(some 14), .mv (.t 3), none, 329216, 6, []⟩,
    ⟨(some 15), .bin .add (.t 13) (.t 14), none, 329472, 7, []⟩,
    ⟨(some 3), .mv (.t 15), none, 329728, 8, []⟩])
  (.reg [⟨(some 16), .mv (.t 0), none, 393216, 0, []⟩,
    ⟨(some 17), .bin .quo (.t 16) (.k (.int .i64 10)), none, 393472, 1, []⟩,
    ⟨(some 0), .mv (.t 17), none, 393728, 2, []⟩]))))))
 (.seq (.reg [⟨(some 18), .mv (.t 3), none, 458752, 0, []⟩,
   ⟨(some 19), .bin .add (.k (.str ⟨#[109]⟩)) (.t 18), none, 459008, 1, []⟩,
   ⟨(some 2), .mv (.t 19), none, 459264, 2, []⟩])
 (.ret)))))⟩
/-- loop.example/g00849/spec.l00From -/
def F82 : F := ⟨1, 6, [.t 2],
 .seq (.reg [⟨(some 2), .mv (.k .undef), none, 0, 0, []⟩])
 (.seq (.reg [⟨(some 3), .mv (.t 0), none, 65536, 0, []⟩,
   ⟨(some 4), .build [(.nil true 1), (.int .i64 0), (.int .u64 0)] [(0, 1, (.t 3))], none, 65792, 1, []⟩,
   ⟨(some 5), .box (.t 4), none, 66048, 2, []⟩,
   ⟨(some 2), .mv (.t 5), none, 66304, 3, []⟩])
 (.ret))⟩
/-- loop.example/g00849/spec.l04Draw -/
def F83 : F := ⟨1, 9, [.cell 2 2 true],
 .seq (.reg [⟨(some 2), .alloc [(.int .i64 0), (.int .i64 0)], none, 0, 0, []⟩])
 (.seq (.reg [⟨(some 3), .mv (.t 0), none, 65536, 0, []⟩,
   ⟨(some 4), .call 134 [(.t 3), (.k (.int .i64 4))] true, none, 65792, 1, []⟩,
   ⟨(some 5), .bin .add (.k (.int .i64 1)) (.t 4), none, 66048, 2, []⟩,
   ⟨(some 6), .mv (.t 0), none, 66304, 3, []⟩,
   ⟨(some 7), .call 134 [(.t 6), (.k (.int .i64 4))] true, none, 66560, 4, []⟩,
   ⟨(some 8), .build [(.int .i64 0), (.int .i64 0)] [(0, 1, (.t 5)), (1, 1, (.t 7))], none, 66816, 5, []⟩,
   ⟨none, .store 2 (.t 2) (.t 8), none, 67072, 6, []⟩])
 (.ret))⟩
/-- loop.example/g00849/impl.CodeOk -/
def F84 : F := ⟨1, 11, [.t 2],
 .seq (.reg [⟨(some 1), .box (.t 0), none, 0, 0, []⟩,
   ⟨(some 2), .mv (.k (.bool false)), none, 256, 1, []⟩])
 (.seq (.reg [⟨(some 3), .faddr 0 (.t 1), none, 65536, 0, []⟩,
   ⟨(some 4), .load 1 false (.t 3), none, 65792, 1, []⟩,
   ⟨(some 5), .call 86 [(.t 4), (.k (.int .i64 1)), (.k (.int .i64 4))] true, none, 66048, 2, []⟩,
   ⟨(some 6), .mv (.t 5), none, 66304, 3, []⟩,
   ⟨(some 7), .faddr 1 (.t 1), (some (some 6, true)), 66560, 4, []⟩,
   ⟨(some 8), .load 1 false (.t 7), (some (some 6, true)), 66816, 5, []⟩,
   ⟨(some 9), .call 86 [(.t 8), (.k (.int .i64 0)), (.k (.int .i64 3))] true, (some (some 6, true)), 67072, 6, []⟩,
   ⟨(some 10), .pick (.t 6) (.t 9) (.k (.bool false)), none, 67328, 7, []⟩,
   ⟨(some 2), .mv (.t 10), none, 67584, 8, []⟩])
 (.ret))⟩
/-- loop.example/g00849/impl.between -/
def F86 : F := ⟨3, 15, [.t 6],
 .seq (.reg [⟨(some 6), .mv (.k (.bool false)), none, 0, 0, []⟩])
 (.seq (.reg [⟨(some 7), .mv (.t 0), none, 65536, 0, []⟩,
   ⟨(some 8), .mv (.t 1), none, 65792, 1, []⟩,
   ⟨(some 9), .bin .geq (.t 7) (.t 8), none, 66048, 2, []⟩,
   ⟨(some 10), .mv (.t 9), none, 66304, 3, []⟩,
   ⟨(some 11), .mv (.t 0), (some (some 10, true)), 66560, 4, []⟩,
   ⟨(some 12), .mv (.t 2), (some (some 10, true)), 66816, 5, []⟩,
   ⟨(some 13), .bin .leq (.t 11) (.t 12), (some (some 10, true)), 67072, 6, []⟩,
   ⟨(some 14), .pick (.t 10) (.t 13) (.k (.bool false)), none, 67328, 7, []⟩,
   ⟨(some 6), .mv (.t 14), none, 67584, 8, []⟩])
 (.ret))⟩
/-- loop.example/g00849/spec.l04Code -/
def F88 : F := ⟨1, 11, [.t 2],
 .seq (.reg [⟨(some 1), .box (.t 0), none, 0, 0, []⟩,
   ⟨(some 2), .mv (.k (.bool false)), none, 256, 1, []⟩])
 (.seq (.reg [⟨(some 3), .faddr 0 (.t 1), none, 65536, 0, []⟩,
   ⟨(some 4), .load 1 false (.t 3), none, 65792, 1, []⟩,
   ⟨(some 5), .call 77 [(.t 4), (.k (.int .i64 1)), (.k (.int .i64 4))] true, none, 66048, 2, []⟩,
   ⟨(some 6), .mv (.t 5), none, 66304, 3, []⟩,
   ⟨(some 7), .faddr 1 (.t 1), (some (some 6, true)), 66560, 4, []⟩,
   ⟨(some 8), .load 1 false (.t 7), (some (some 6, true)), 66816, 5, []⟩,
   ⟨(some 9), .call 77 [(.t 8), (.k (.int .i64 0)), (.k (.int .i64 3))] true, (some (some 6, true)), 67072, 6, []⟩,
   ⟨(some 10), .pick (.t 6) (.t 9) (.k (.bool false)), none, 67328, 7, []⟩,
   ⟨(some 2), .mv (.t 10), none, 67584, 8, []⟩])
 (.ret))⟩
/-- loop.example/g00849/impl.wideOf -/
def F90 : F := ⟨3, 74, [.cell 6 5 true],
 .seq (.reg [⟨(some 3), .box (.t 0), none, 0, 0, []⟩,
   ⟨(some 6), .alloc [(.int .i64 0), (.int .i64 0), (.int .i64 0), (.int .i64 0), (.nil true 1)], none, 256, 1, []⟩])
 (.seq (.reg [⟨(some 16), .load 2 true (.t 3), none, 65536, 0, []⟩,
   ⟨(some 17), .mv (.t 1), none, 65792, 1, []⟩,
   ⟨(some 18), .mv (.t 2), none, 66048, 2, []⟩,
   ⟨(some 19), .len true (.t 18), none, 66304, 3, []⟩,
   ⟨(some 20), .build [(.int .i64 0), (.int .i64 0), (.int .i64 0), (.int .i64 0), (.nil true 1)] [(0, 2, (.t 16)), (2, 1, (.t 17)), (3, 1, (.t 19))], none, 66560, 4, []⟩,
   ⟨(some 7), .alloc [(.int .i64 0), (.int .i64 0), (.int .i64 0), (.int .i64 0), (.nil true 1)], none, 66816, 5, []⟩,
   ⟨none, .stm 5 (.t 7) (.t 20), none, 67072, 6, []⟩])
 (.seq (.reg [⟨(some 21), .faddr 0 (.t 3), none, 131072, 0, []⟩,
   ⟨(some 22), .load 1 false (.t 21), none, 131328, 1, []⟩,
   ⟨(some 23), .mksl false 1 24 [(.nil true 1)] (.t 22) (.t 22), none, 131584, 2, []⟩,
   ⟨(some 8), .mv (.t 23), none, 131840, 3, []⟩])
 (.seq (.seq (.reg [⟨(some 24), .mv (.t 8), none, 196608, 0, []⟩,
   ⟨(some 25), .len false (.t 24), none, 196864, 1, []⟩,
   ⟨(some 26), .mv (.k (.int .i64 0)), none, 197120, 2, []⟩])
 (.block 0 (.loop [2, 3, 6, 7, 8, 25, 26] [0, 1, 2, 3, 4, 5, 256, 261, 66816, 66821, 67073, 67074, 67075, 67076, 67077, 131584, 788737, 917504, 1180416, 1180672, 1311232, 1311233, 1311234, 1311235, 1311745, 1376513, 1376514, 1376515, 1376516, 1376517]
  (.seq (.reg [⟨(some 27), .bin .lss (.t 26) (.t 25), none, 262144, 0, []⟩])
  (.seq (.cond (.t 27)
   (.skip)
   (.exit 0))
  (.seq (.block 1 (.seq (.reg [⟨(some 28), .mv (.t 26), none, 327680, 0, []⟩,
    ⟨(some 9), .mv (.t 28), none, 327936, 1, []⟩])
  (.reg [⟨(some 29), .mv (.t 8), none, 393216, 0, []⟩,
    ⟨(some 30), .mv (.t 9), none, 393472, 1, []⟩,
    ⟨(some 31), .load 5 true (.t 7), none, 393728, 2, []⟩,
    ⟨(some 32), .call 99 [(.t 31)] true, none, 393984, 3, []⟩,
    ⟨(some 33), .mksl true 1 1 [(.int .u8 0)] (.t 32) (.t 32), none, 394240, 4, []⟩,
    ⟨(some 34), .iaddr 1 (.t 29) (.t 30), none, 394496, 5, []⟩,
    ⟨none, .stm 1 (.t 34) (.t 33), none, 394752, 6, []⟩])))
  (.reg [⟨(some 35), .bin .add (.t 26) (.k (.int .i64 1)), none, 458752, 0, []⟩,
    ⟨(some 26), .mv (.t 35), none, 459008, 1, []⟩])))))))
 (.seq (.seq (.reg [⟨(some 36), .faddr 3 (.t 7), none, 524288, 0, []⟩,
   ⟨(some 37), .load 1 false (.t 36), none, 524544, 1, []⟩,
   ⟨(some 38), .mv (.k (.int .i64 0)), none, 524800, 2, []⟩])
 (.block 2 (.loop [2, 3, 6, 7, 8, 37, 38] [0, 1, 2, 3, 4, 5, 256, 261, 66816, 66821, 67073, 67074, 67075, 67076, 67077, 131584, 394240, 394753, 917504, 1180416, 1180672, 1311232, 1311233, 1311234, 1311235, 1311745, 1376513, 1376514, 1376515, 1376516, 1376517]
  (.seq (.reg [⟨(some 39), .bin .lss (.t 38) (.t 37), none, 589824, 0, []⟩])
  (.seq (.cond (.t 39)
   (.skip)
   (.exit 2))
  (.seq (.block 3 (.seq (.reg [⟨(some 40), .mv (.t 38), none, 655360, 0, []⟩,
    ⟨(some 10), .mv (.t 40), none, 655616, 1, []⟩])
  (.seq (.reg [⟨(some 42), .load 5 true (.t 7), none, 720896, 0, []⟩,
    ⟨(some 43), .mv (.t 10), none, 721152, 1, []⟩,
    ⟨(some 44), .call 101 [(.t 42), (.t 43)] true, none, 721408, 2, []⟩,
    ⟨(some 41), .mv (.t 44), none, 721664, 3, []⟩,
    ⟨(some 45), .ext (.t 41) 0, none, 721920, 4, []⟩,
    ⟨(some 46), .ext (.t 41) 1, none, 722176, 5, []⟩,
    ⟨(some 11), .mv (.t 45), none, 722432, 6, []⟩,
    ⟨(some 12), .mv (.t 46), none, 722688, 7, []⟩])
  (.reg [⟨(some 47), .mv (.t 8), none, 786432, 0, []⟩,
    ⟨(some 48), .mv (.t 11), none, 786688, 1, []⟩,
    ⟨(some 49), .iaddr 1 (.t 47) (.t 48), none, 786944, 2, []⟩,
    ⟨(some 50), .load 1 false (.t 49), none, 787200, 3, []⟩,
    ⟨(some 51), .mv (.t 12), none, 787456, 4, []⟩,
    ⟨(some 52), .mv (.t 2), none, 787712, 5, []⟩,
    ⟨(some 53), .mv (.t 10), none, 787968, 6, []⟩,
    ⟨(some 54), .idx (.t 52) (.t 53), none, 788224, 7, []⟩,
    ⟨(some 55), .iaddr 1 (.t 50) (.t 51), none, 788480, 8, []⟩,
    ⟨none, .stm 1 (.t 55) (.t 54), none, 788736, 9, []⟩]))))
  (.reg [⟨(some 56), .bin .add (.t 38) (.k (.int .i64 1)), none, 851968, 0, []⟩,
    ⟨(some 38), .mv (.t 56), none, 852224, 1, []⟩])))))))
 (.seq (.reg [⟨(some 13), .nil0 true 1, none, 917504, 0, []⟩])
 (.seq (.seq (.reg [⟨(some 57), .mv (.t 8), none, 983040, 0, []⟩,
   ⟨(some 58), .len false (.t 57), none, 983296, 1, []⟩,
   ⟨(some 59), .mv (.k (.int .i64 0)), none, 983552, 2, []⟩])
 (.block 4 (.loop [3, 6, 7, 13, 57, 58, 59] [0, 1, 2, 3, 4, 5, 256, 261, 66816, 66821, 67073, 67074, 67075, 67076, 67077, 131584, 394240, 394753, 788737, 917504, 1311232, 1311233, 1311234, 1311235, 1311745, 1376513, 1376514, 1376515, 1376516, 1376517]
  (.seq (.reg [⟨(some 60), .bin .lss (.t 59) (.t 58), none, 1048576, 0, []⟩])
  (.seq (.cond (.t 60)
   (.skip)
   (.exit 4))
  (.seq (.block 5 (.seq (.reg [⟨(some 61), .iaddr 1 (.t 57) (.t 59), none, 1114112, 0, []⟩,
    ⟨(some 62), .load 1 false (.t 61), none, 1114368, 1, []⟩,
    ⟨(some 15), .mv (.t 62), none, 1114624, 2, []⟩])
  (.reg [⟨(some 63), .mv (.t 13), none, 1179648, 0, []⟩,
    ⟨(some 64), .mv (.t 15), none, 1179904, 1, []⟩,
    ⟨(some 65), .b2s (.t 64), none, 1180160, 2, []⟩,
    ⟨(some 66), .bslice true 1 [(.str ByteArray.empty)] 1 [(0, (.t 65))], none, 1180416, 3, []⟩,
    ⟨(some 67), .app true 1 16 (.t 63) (.t 66), none, 1180672, 4, []⟩,
    ⟨(some 13), .mv (.t 67), none, 1180928, 5, []⟩])))
  (.reg [⟨(some 68), .bin .add (.t 59) (.k (.int .i64 1)), none, 1245184, 0, []⟩,
    ⟨(some 59), .mv (.t 68), none, 1245440, 1, []⟩])))))))
 (.seq (.reg [⟨(some 69), .load 2 true (.t 3), none, 1310720, 0, []⟩,
   ⟨(some 70), .mv (.t 13), none, 1310976, 1, []⟩,
   ⟨(some 71), .call 80 [(.t 69), (.t 70)] false, none, 1311232, 2, []⟩,
   ⟨(some 72), .faddr 4 (.t 7), none, 1311488, 3, []⟩,
   ⟨none, .stm 1 (.t 72) (.t 71), none, 1311744, 4, []⟩])
 (.seq (.reg [⟨(some 73), .load 5 true (.t 7), none, 1376256, 0, []⟩,
   ⟨none, .stm 5 (.t 6) (.t 73), none, 1376512, 1, []⟩])
 (.ret)))))))))⟩
/-- loop.example/g00849/laws.eqCode -/
def F91 : F := ⟨2, 15, [.t 4],
 .seq (.reg [⟨(some 2), .box (.t 0), none, 0, 0, []⟩,
   ⟨(some 3), .box (.t 1), none, 256, 1, []⟩,
   ⟨(some 4), .mv (.k (.bool false)), none, 512, 2, []⟩])
 (.seq (.seq (.reg [⟨(some 5), .faddr 0 (.t 2), none, 65536, 0, []⟩,
   ⟨(some 6), .load 1 false (.t 5), none, 65792, 1, []⟩,
   ⟨(some 7), .faddr 0 (.t 3), none, 66048, 2, []⟩,
   ⟨(some 8), .load 1 false (.t 7), none, 66304, 3, []⟩,
   ⟨(some 9), .bin .neq (.t 6) (.t 8), none, 66560, 4, []⟩])
 (.cond (.t 9)
  (.seq (.reg [⟨(some 4), .mv (.k (.bool false)), none, 131072, 0, []⟩])
  (.ret))
  (.skip)))
 (.seq (.seq (.reg [⟨(some 10), .faddr 1 (.t 2), none, 196608, 0, []⟩,
   ⟨(some 11), .load 1 false (.t 10), none, 196864, 1, []⟩,
   ⟨(some 12), .faddr 1 (.t 3), none, 197120, 2, []⟩,
   ⟨(some 13), .load 1 false (.t 12), none, 197376, 3, []⟩,
   ⟨(some 14), .bin .neq (.t 11) (.t 13), none, 197632, 4, []⟩])
 (.cond (.t 14)
  (.seq (.reg [⟨(some 4), .mv (.k (.bool false)), none, 262144, 0, []⟩])
  (.ret))
  (.skip)))
 (.seq (.reg [⟨(some 4), .mv (.k (.bool true)), none, 327680, 0, []⟩])
 (.ret))))⟩
/-- loop.example/g00849/laws.eqStringS -/
def F92 : F := ⟨2, 26, [.t 4],
 .seq (.reg [⟨(some 4), .mv (.k (.bool false)), none, 0, 0, []⟩])
 (.seq (.seq (.reg [⟨(some 6), .mv (.t 0), none, 65536, 0, []⟩,
   ⟨(some 7), .len false (.t 6), none, 65792, 1, []⟩,
   ⟨(some 8), .mv (.t 1), none, 66048, 2, []⟩,
   ⟨(some 9), .len false (.t 8), none, 66304, 3, []⟩,
   ⟨(some 10), .bin .neq (.t 7) (.t 9), none, 66560, 4, []⟩])
 (.cond (.t 10)
  (.seq (.reg [⟨(some 4), .mv (.k (.bool false)), none, 131072, 0, []⟩])
  (.ret))
  (.skip)))
 (.seq (.seq (.reg [⟨(some 5), .mv (.k (.int .i64 0)), none, 196608, 0, []⟩])
 (.block 0 (.loop [0, 1, 5] []
  (.seq (.seq (.reg [⟨(some 11), .mv (.t 5), none, 262144, 0, []⟩,
    ⟨(some 12), .mv (.t 0), none, 262400, 1, []⟩,
    ⟨(some 13), .len false (.t 12), none, 262656, 2, []⟩,
    ⟨(some 14), .bin .lss (.t 11) (.t 13), none, 262912, 3, []⟩])
  (.cond (.t 14)
   (.skip)
   (.exit 0)))
  (.seq (.block 1 (.seq (.reg [⟨(some 17), .mv (.t 0), none, 393216, 0, []⟩,
    ⟨(some 18), .mv (.t 5), none, 393472, 1, []⟩,
    ⟨(some 19), .iaddr 1 (.t 17) (.t 18), none, 393728, 2, []⟩,
    ⟨(some 20), .load 1 false (.t 19), none, 393984, 3, []⟩,
    ⟨(some 21), .mv (.t 1), none, 394240, 4, []⟩,
    ⟨(some 22), .mv (.t 5), none, 394496, 5, []⟩,
    ⟨(some 23), .iaddr 1 (.t 21) (.t 22), none, 394752, 6, []⟩,
    ⟨(some 24), .load 1 false (.t 23), none, 395008, 7, []⟩,
    ⟨(some 25), .bin .neq (.t 20) (.t 24), none, 395264, 8, []⟩])
  (.cond (.t 25)
   (.seq (.reg [⟨(some 4), .mv (.k (.bool false)), none, 458752, 0, []⟩])
   (.ret))
   (.skip))))
  (.reg [⟨(some 15), .mv (.t 5), none, 327680, 0, []⟩,
    ⟨(some 16), .bin .add (.t 15) (.k (.int .i64 1)), none, 327936, 1, []⟩,
    ⟨(some 5), .mv (.t 16), none, 328192, 2, []⟩]))))))
 (.seq (.reg [⟨(some 4), .mv (.k (.bool true)), none, 524288, 0, []⟩])
 (.ret))))⟩
/-- loop.example/g00849/laws.markStringS -/
def F93 : F := ⟨2, 20, [.t 4],
 .seq (.reg [⟨(some 4), .mv (.k (.int .i64 0)), none, 0, 0, []⟩])
 (.seq (.seq (.reg [⟨(some 5), .mv (.k (.int .i64 0)), none, 65536, 0, []⟩])
 (.block 0 (.loop [0, 1, 5] []
  (.seq (.seq (.reg [⟨(some 6), .mv (.t 5), none, 131072, 0, []⟩,
    ⟨(some 7), .mv (.t 0), none, 131328, 1, []⟩,
    ⟨(some 8), .len false (.t 7), none, 131584, 2, []⟩,
    ⟨(some 9), .bin .lss (.t 6) (.t 8), none, 131840, 3, []⟩])
  (.cond (.t 9)
   (.skip)
   (.exit 0)))
  (.seq (.block 1 (.seq (.reg [⟨(some 12), .mv (.t 0), none, 262144, 0, []⟩,
    ⟨(some 13), .mv (.t 5), none, 262400, 1, []⟩,
    ⟨(some 14), .mv (.t 1), none, 262656, 2, []⟩,
    ⟨(some 15), .call 81 [(.t 14)] true, none, 262912, 3, []⟩,
    ⟨(some 16), .iaddr 1 (.t 12) (.t 13), none, 263168, 4, []⟩,
    ⟨none, .store 1 (.t 16) (.t 15), none, 263424, 5, []⟩])
  (.reg [⟨(some 17), .mv (.t 1), none, 327680, 0, []⟩,
    ⟨(some 18), .bin .add (.t 17) (.k (.int .i64 1)), none, 327936, 1, []⟩,
    ⟨(some 1), .mv (.t 18), none, 328192, 2, []⟩])))
  (.reg [⟨(some 10), .mv (.t 5), none, 196608, 0, []⟩,
    ⟨(some 11), .bin .add (.t 10) (.k (.int .i64 1)), none, 196864, 1, []⟩,
    ⟨(some 5), .mv (.t 11), none, 197120, 2, []⟩]))))))
 (.seq (.reg [⟨(some 19), .mv (.t 1), none, 393216, 0, []⟩,
   ⟨(some 4), .mv (.t 19), none, 393472, 1, []⟩])
 (.ret)))⟩
/-- loop.example/g00849/laws.heldStringS -/
def F94 : F := ⟨2, 22, [.t 4],
 .seq (.reg [⟨(some 4), .mv (.k (.int .i64 0)), none, 0, 0, []⟩])
 (.seq (.seq (.reg [⟨(some 5), .mv (.k (.int .i64 0)), none, 65536, 0, []⟩])
 (.block 0 (.loop [0, 1, 5] []
  (.seq (.seq (.reg [⟨(some 6), .mv (.t 5), none, 131072, 0, []⟩,
    ⟨(some 7), .mv (.t 0), none, 131328, 1, []⟩,
    ⟨(some 8), .len false (.t 7), none, 131584, 2, []⟩,
    ⟨(some 9), .bin .lss (.t 6) (.t 8), none, 131840, 3, []⟩])
  (.cond (.t 9)
   (.skip)
   (.exit 0)))
  (.seq (.block 1 (.seq (.seq (.reg [⟨(some 12), .mv (.t 0), none, 262144, 0, []⟩,
    ⟨(some 13), .mv (.t 5), none, 262400, 1, []⟩,
    ⟨(some 14), .iaddr 1 (.t 12) (.t 13), none, 262656, 2, []⟩,
    ⟨(some 15), .load 1 false (.t 14), none, 262912, 3, []⟩,
    ⟨(some 16), .mv (.t 1), none, 263168, 4, []⟩,
    ⟨(some 17), .call 81 [(.t 16)] true, none, 263424, 5, []⟩,
    ⟨(some 18), .bin .neq (.t 15) (.t 17), none, 263680, 6, []⟩])
  (.cond (.t 18)
   (.seq (.reg [⟨(some 4), .mv (.k (.int .i64 (-1))), none, 327680, 0, []⟩])
   (.ret))
   (.skip)))
  (.reg [⟨(some 19), .mv (.t 1), none, 393216, 0, []⟩,
    ⟨(some 20), .bin .add (.t 19) (.k (.int .i64 1)), none, 393472, 1, []⟩,
    ⟨(some 1), .mv (.t 20), none, 393728, 2, []⟩])))
  (.reg [⟨(some 10), .mv (.t 5), none, 196608, 0, []⟩,
    ⟨(some 11), .bin .add (.t 10) (.k (.int .i64 1)), none, 196864, 1, []⟩,
    ⟨(some 5), .mv (.t 11), none, 197120, 2, []⟩]))))))
 (.seq (.reg [⟨(some 21), .mv (.t 1), none, 458752, 0, []⟩,
   ⟨(some 4), .mv (.t 21), none, 459008, 1, []⟩])
 (.ret)))⟩
/-- (loop.example/g00849/impl.Code).size -/
def F96 : F := ⟨1, 8, [.t 2],
 .seq (.reg [⟨(some 1), .box (.t 0), none, 0, 0, []⟩,
   ⟨(some 2), .mv (.k (.int .i64 0)), none, 256, 1, []⟩])
 (.seq (.reg [⟨(some 3), .faddr 0 (.t 1), none, 65536, 0, []⟩,
   ⟨(some 4), .load 1 false (.t 3), none, 65792, 1, []⟩,
   ⟨(some 5), .faddr 1 (.t 1), none, 66048, 2, []⟩,
   ⟨(some 6), .load 1 false (.t 5), none, 66304, 3, []⟩,
   ⟨(some 7), .bin .add (.t 4) (.t 6), none, 66560, 4, []⟩,
   ⟨(some 2), .mv (.t 7), none, 66816, 5, []⟩])
 (.ret))⟩
/-- slices.ContainsFunc[[]string,string] -/
def F97 : F := ⟨2, 9, [.t 4],
 .seq (.reg [⟨(some 4), .mv (.k (.bool false)), none, 0, 0, []⟩])
 (.seq (.reg [⟨(some 5), .mv (.t 0), none, 65536, 0, []⟩,
   ⟨(some 6), .mv (.t 1), none, 65792, 1, []⟩,
   ⟨(some 7), .call 138 [(.t 5), (.t 6)] true, none, 66048, 2, []⟩,
   ⟨(some 8), .bin .geq (.t 7) (.k (.int .i64 0)), none, 66304, 3, []⟩,
   ⟨(some 4), .mv (.t 8), none, 66560, 4, []⟩])
 (.ret))⟩
/-- loop.example/g00849/impl.WideOk$1 -/
def F98 : F := ⟨2, 9, [.t 3],
 .seq (.reg [⟨(some 3), .mv (.k (.bool false)), none, 0, 0, []⟩])
 (.seq (.reg [⟨(some 4), .mv (.t 0), none, 65536, 0, []⟩,
   ⟨(some 5), .len true (.t 4), none, 65792, 1, []⟩,
   ⟨(some 6), .load 5 true (.t 1), none, 66048, 2, []⟩,
   ⟨(some 7), .call 99 [(.t 6)] true, none, 66304, 3, []⟩,
   ⟨(some 8), .bin .neq (.t 5) (.t 7), none, 66560, 4, []⟩,
   ⟨(some 3), .mv (.t 8), none, 66816, 5, []⟩])
 (.ret))⟩
/-- (loop.example/g00849/impl.Wide).length -/
def F99 : F := ⟨1, 15, [.t 2],
 .seq (.reg [⟨(some 1), .box (.t 0), none, 0, 0, []⟩,
   ⟨(some 2), .mv (.k (.int .i64 0)), none, 256, 1, []⟩])
 (.seq (.reg [⟨(some 3), .faddr 3 (.t 1), none, 65536, 0, []⟩,
   ⟨(some 4), .load 1 false (.t 3), none, 65792, 1, []⟩,
   ⟨(some 5), .load 5 true (.t 1), none, 66048, 2, []⟩,
   ⟨(some 6), .call 115 [(.t 5)] true, none, 66304, 3, []⟩,
   ⟨(some 7), .bin .add (.t 4) (.t 6), none, 66560, 4, []⟩,
   ⟨(some 8), .bin .sub (.t 7) (.k (.int .i64 1)), none, 66816, 5, []⟩,
   ⟨(some 9), .load 5 true (.t 1), none, 67072, 6, []⟩,
   ⟨(some 10), .call 115 [(.t 9)] true, none, 67328, 7, []⟩,
   ⟨(some 11), .bin .quo (.t 8) (.t 10), none, 67584, 8, []⟩,
   ⟨(some 12), .faddr 2 (.t 1), none, 67840, 9, []⟩,
   ⟨(some 13), .load 1 false (.t 12), none, 68096, 10, []⟩,
   ⟨(some 14), .bin .mul (.t 11) (.t 13), none, 68352, 11, []⟩,
   ⟨(some 2), .mv (.t 14), none, 68608, 12, []⟩])
 (.ret))⟩
/-- slices.Equal[[]string,string] -/
def F100 : F := ⟨2, 26, [.t 4],
 .seq (.reg [⟨(some 4), .mv (.k (.bool false)), none, 0, 0, []⟩])
 (.seq (.seq (.reg [⟨(some 6), .mv (.t 0), none, 65536, 0, []⟩,
   ⟨(some 7), .len false (.t 6), none, 65792, 1, []⟩,
   ⟨(some 8), .mv (.t 1), none, 66048, 2, []⟩,
   ⟨(some 9), .len false (.t 8), none, 66304, 3, []⟩,
   ⟨(some 10), .bin .neq (.t 7) (.t 9), none, 66560, 4, []⟩])
 (.cond (.t 10)
  (.seq (.reg [⟨(some 4), .mv (.k (.bool false)), none, 131072, 0, []⟩])
  (.ret))
  (.skip)))
 (.seq (.seq (.reg [⟨(some 11), .mv (.t 0), none, 196608, 0, []⟩,
   ⟨(some 12), .len false (.t 11), none, 196864, 1, []⟩,
   ⟨(some 13), .mv (.k (.int .i64 0)), none, 197120, 2, []⟩])
 (.block 0 (.loop [0, 1, 12, 13] []
  (.seq (.reg [⟨(some 14), .bin .lss (.t 13) (.t 12), none, 262144, 0, []⟩])
  (.seq (.cond (.t 14)
   (.skip)
   (.exit 0))
  (.seq (.block 1 (.seq (.reg [⟨(some 15), .mv (.t 13), none, 327680, 0, []⟩,
    ⟨(some 5), .mv (.t 15), none, 327936, 1, []⟩])
  (.seq (.reg [⟨(some 16), .mv (.t 0), none, 393216, 0, []⟩,
    ⟨(some 17), .mv (.t 5), none, 393472, 1, []⟩,
    ⟨(some 18), .iaddr 1 (.t 16) (.t 17), none, 393728, 2, []⟩,
    ⟨(some 19), .load 1 false (.t 18), none, 393984, 3, []⟩,
    ⟨(some 20), .mv (.t 1), none, 394240, 4, []⟩,
    ⟨(some 21), .mv (.t 5), none, 394496, 5, []⟩,
    ⟨(some 22), .iaddr 1 (.t 20) (.t 21), none, 394752, 6, []⟩,
    ⟨(some 23), .load 1 false (.t 22), none, 395008, 7, []⟩,
    ⟨(some 24), .bin .neq (.t 19) (.t 23), none, 395264, 8, []⟩])
  (.cond (.t 24)
   (.seq (.reg [⟨(some 4), .mv (.k (.bool false)), none, 458752, 0, []⟩])
   (.ret))
   (.skip)))))
  (.reg [⟨(some 25), .bin .add (.t 13) (.k (.int .i64 1)), none, 524288, 0, []⟩,
    ⟨(some 13), .mv (.t 25), none, 524544, 1, []⟩])))))))
 (.seq (.reg [⟨(some 4), .mv (.k (.bool true)), none, 589824, 0, []⟩])
 (.ret))))⟩
/-- (loop.example/g00849/impl.Wide).cell -/
def F101 : F := ⟨2, 25, [.t 4, .t 5],
 .seq (.reg [⟨(some 2), .box (.t 0), none, 0, 0, []⟩,
   ⟨(some 4), .mv (.k (.int .i64 0)), none, 256, 1, []⟩,
   ⟨(some 5), .mv (.k (.int .i64 0)), none, 512, 2, []⟩])
 (.seq (.reg [⟨(some 6), .mv (.t 1), none, 65536, 0, []⟩,
   ⟨(some 7), .load 5 true (.t 2), none, 65792, 1, []⟩,
   ⟨(some 8), .call 115 [(.t 7)] true, none, 66048, 2, []⟩,
   ⟨(some 9), .bin .rem (.t 6) (.t 8), none, 66304, 3, []⟩,
   ⟨(some 10), .faddr 2 (.t 2), none, 66560, 4, []⟩,
   ⟨(some 11), .load 1 false (.t 10), none, 66816, 5, []⟩,
   ⟨(some 12), .bin .quo (.t 9) (.t 11), none, 67072, 6, []⟩,
   ⟨(some 13), .mv (.t 1), none, 67328, 7, []⟩,
   ⟨(some 14), .load 5 true (.t 2), none, 67584, 8, []⟩,
   ⟨(some 15), .call 115 [(.t 14)] true, none, 67840, 9, []⟩,
   ⟨(some 16), .bin .quo (.t 13) (.t 15), none, 68096, 10, []⟩,
   ⟨(some 17), .faddr 2 (.t 2), none, 68352, 11, []⟩,
   ⟨(some 18), .load 1 false (.t 17), none, 68608, 12, []⟩,
   ⟨(some 19), .bin .mul (.t 16) (.t 18), none, 68864, 13, []⟩,
   ⟨(some 20), .mv (.t 1), none, 69120, 14, []⟩,
   ⟨(some 21), .faddr 2 (.t 2), none, 69376, 15, []⟩,
   ⟨(some 22), .load 1 false (.t 21), none, 69632, 16, []⟩,
   ⟨(some 23), .bin .rem (.t 20) (.t 22), none, 69888, 17, []⟩,
   ⟨(some 24), .bin .add (.t 19) (.t 23), none, 70144, 18, []⟩,
   ⟨(some 4), .mv (.t 12), none, 70400, 19, []⟩,
   ⟨(some 5), .mv (.t 24), none, 70656, 20, []⟩])
 (.ret))⟩
/-- loop.example/g00849/laws.szStringS -/
def F102 : F := ⟨2, 28, [.t 4],
 .seq (.reg [⟨(some 4), .mv (.k (.int .i64 0)), none, 0, 0, []⟩])
 (.seq (.reg [⟨(some 6), .mv (.t 1), none, 65536, 0, []⟩,
   ⟨(some 7), .mv (.t 0), none, 65792, 1, []⟩,
   ⟨(some 8), .len false (.t 7), none, 66048, 2, []⟩,
   ⟨(some 9), .bin .sub (.t 6) (.t 8), none, 66304, 3, []⟩,
   ⟨(some 1), .mv (.t 9), none, 66560, 4, []⟩])
 (.seq (.seq (.reg [⟨(some 10), .mv (.t 1), none, 131072, 0, []⟩,
   ⟨(some 11), .bin .lss (.t 10) (.k (.int .i64 0)), none, 131328, 1, []⟩])
 (.cond (.t 11)
  (.seq (.reg [⟨(some 4), .mv (.k (.int .i64 (-1))), none, 196608, 0, []⟩])
  (.ret))
  (.skip)))
 (.seq (.seq (.reg [⟨(some 5), .mv (.k (.int .i64 0)), none, 262144, 0, []⟩])
 (.block 0 (.loop [0, 1, 5] []
  (.seq (.seq (.reg [⟨(some 12), .mv (.t 5), none, 327680, 0, []⟩,
    ⟨(some 13), .mv (.t 0), none, 327936, 1, []⟩,
    ⟨(some 14), .len false (.t 13), none, 328192, 2, []⟩,
    ⟨(some 15), .bin .lss (.t 12) (.t 14), none, 328448, 3, []⟩])
  (.cond (.t 15)
   (.skip)
   (.exit 0)))
  (.seq (.block 1 (.seq (.reg [⟨(some 18), .mv (.t 1), none, 458752, 0, []⟩,
    ⟨(some 19), .mv (.t 0), none, 459008, 1, []⟩,
    ⟨(some 20), .mv (.t 5), none, 459264, 2, []⟩,
    ⟨(some 21), .iaddr 1 (.t 19) (.t 20), none, 459520, 3, []⟩,
    ⟨(some 22), .load 1 false (.t 21), none, 459776, 4, []⟩,
    ⟨(some 23), .len true (.t 22), none, 460032, 5, []⟩,
    ⟨(some 24), .bin .sub (.t 18) (.t 23), none, 460288, 6, []⟩,
    ⟨(some 1), .mv (.t 24), none, 460544, 7, []⟩])
  (.seq (.reg [⟨(some 25), .mv (.t 1), none, 524288, 0, []⟩,
    ⟨(some 26), .bin .lss (.t 25) (.k (.int .i64 0)), none, 524544, 1, []⟩])
  (.cond (.t 26)
   (.seq (.reg [⟨(some 4), .mv (.k (.int .i64 (-1))), none, 589824, 0, []⟩])
   (.ret))
   (.skip)))))
  (.reg [⟨(some 16), .mv (.t 5), none, 393216, 0, []⟩,
    ⟨(some 17), .bin .add (.t 16) (.k (.int .i64 1)), none, 393472, 1, []⟩,
    ⟨(some 5), .mv (.t 17), none, 393728, 2, []⟩]))))))
 (.seq (.reg [⟨(some 27), .mv (.t 1), none, 655360, 0, []⟩,
   ⟨(some 4), .mv (.t 27), none, 655616, 1, []⟩])
 (.ret)))))⟩
/-- loop.example/g00849/spec.l05OK -/
def F103 : F := ⟨1, 54, [.t 2],
 .seq (.reg [⟨(some 1), .box (.t 0), none, 0, 0, []⟩,
   ⟨(some 2), .mv (.k (.bool false)), none, 256, 1, []⟩])
 (.seq (.seq (.reg [⟨(some 4), .faddr 0 (.t 1), none, 65536, 0, []⟩,
   ⟨(some 5), .load 2 true (.t 4), none, 65792, 1, []⟩,
   ⟨(some 6), .call 88 [(.t 5)] true, none, 66048, 2, []⟩,
   ⟨(some 7), .not (.t 6), none, 66304, 3, []⟩,
   ⟨(some 8), .mv (.t 7), none, 66560, 4, []⟩,
   ⟨(some 9), .faddr 2 (.t 1), (some (some 8, false)), 66816, 5, []⟩,
   ⟨(some 10), .load 1 false (.t 9), (some (some 8, false)), 67072, 6, []⟩,
   ⟨(some 11), .call 77 [(.t 10), (.k (.int .i64 1)), (.k (.int .i64 8))] true, (some (some 8, false)), 67328, 7, []⟩,
   ⟨(some 12), .not (.t 11), (some (some 8, false)), 67584, 8, []⟩,
   ⟨(some 13), .pick (.t 8) (.k (.bool true)) (.t 12), none, 67840, 9, []⟩,
   ⟨(some 14), .mv (.t 13), none, 68096, 10, []⟩,
   ⟨(some 15), .faddr 3 (.t 1), (some (some 14, false)), 68352, 11, []⟩,
   ⟨(some 16), .load 1 false (.t 15), (some (some 14, false)), 68608, 12, []⟩,
   ⟨(some 17), .call 77 [(.t 16), (.k (.int .i64 0)), (.k (.int .i64 256))] true, (some (some 14, false)), 68864, 13, []⟩,
   ⟨(some 18), .not (.t 17), (some (some 14, false)), 69120, 14, []⟩,
   ⟨(some 19), .pick (.t 14) (.k (.bool true)) (.t 18), none, 69376, 15, []⟩,
   ⟨(some 20), .mv (.t 19), none, 69632, 16, []⟩,
   ⟨(some 21), .faddr 4 (.t 1), (some (some 20, false)), 69888, 17, []⟩,
   ⟨(some 22), .load 1 false (.t 21), (some (some 20, false)), 70144, 18, []⟩,
   ⟨(some 23), .len false (.t 22), (some (some 20, false)), 70400, 19, []⟩,
   ⟨(some 24), .faddr 0 (.t 1), (some (some 20, false)), 70656, 20, []⟩,
   ⟨(some 25), .faddr 0 (.t 24), (some (some 20, false)), 70912, 21, []⟩,
   ⟨(some 26), .load 1 false (.t 25), (some (some 20, false)), 71168, 22, []⟩,
   ⟨(some 27), .faddr 0 (.t 1), (some (some 20, false)), 71424, 23, []⟩,
   ⟨(some 28), .faddr 1 (.t 27), (some (some 20, false)), 71680, 24, []⟩,
   ⟨(some 29), .load 1 false (.t 28), (some (some 20, false)), 71936, 25, []⟩,
   ⟨(some 30), .bin .add (.t 26) (.t 29), (some (some 20, false)), 72192, 26, []⟩,
   ⟨(some 31), .bin .neq (.t 23) (.t 30), (some (some 20, false)), 72448, 27, []⟩,
   ⟨(some 32), .pick (.t 20) (.k (.bool true)) (.t 31), none, 72704, 28, []⟩])
 (.cond (.t 32)
  (.seq (.reg [⟨(some 2), .mv (.k (.bool false)), none, 131072, 0, []⟩])
  (.ret))
  (.skip)))
 (.seq (.seq (.reg [⟨(some 3), .mv (.k (.int .i64 0)), none, 196608, 0, []⟩])
 (.block 0 (.loop [1, 3] [0, 1, 2, 3, 4, 5]
  (.seq (.seq (.reg [⟨(some 33), .mv (.t 3), none, 262144, 0, []⟩,
    ⟨(some 34), .faddr 4 (.t 1), none, 262400, 1, []⟩,
    ⟨(some 35), .load 1 false (.t 34), none, 262656, 2, []⟩,
    ⟨(some 36), .len false (.t 35), none, 262912, 3, []⟩,
    ⟨(some 37), .bin .lss (.t 33) (.t 36), none, 263168, 4, []⟩])
  (.cond (.t 37)
   (.skip)
   (.exit 0)))
  (.seq (.block 1 (.seq (.reg [⟨(some 40), .faddr 4 (.t 1), none, 393216, 0, []⟩,
    ⟨(some 41), .load 1 false (.t 40), none, 393472, 1, []⟩,
    ⟨(some 42), .mv (.t 3), none, 393728, 2, []⟩,
    ⟨(some 43), .iaddr 1 (.t 41) (.t 42), none, 393984, 3, []⟩,
    ⟨(some 44), .load 1 false (.t 43), none, 394240, 4, []⟩,
    ⟨(some 45), .len true (.t 44), none, 394496, 5, []⟩,
    ⟨(some 46), .faddr 0 (.t 1), none, 394752, 6, []⟩,
    ⟨(some 47), .load 2 true (.t 46), none, 395008, 7, []⟩,
    ⟨(some 48), .faddr 2 (.t 1), none, 395264, 8, []⟩,
    ⟨(some 49), .load 1 false (.t 48), none, 395520, 9, []⟩,
    ⟨(some 50), .faddr 3 (.t 1), none, 395776, 10, []⟩,
    ⟨(some 51), .load 1 false (.t 50), none, 396032, 11, []⟩,
    ⟨(some 52), .call 136 [(.t 47), (.t 49), (.t 51)] true, none, 396288, 12, []⟩,
    ⟨(some 53), .bin .neq (.t 45) (.t 52), none, 396544, 13, []⟩])
  (.cond (.t 53)
   (.seq (.reg [⟨(some 2), .mv (.k (.bool false)), none, 458752, 0, []⟩])
   (.ret))
   (.skip))))
  (.reg [⟨(some 38), .mv (.t 3), none, 327680, 0, []⟩,
    ⟨(some 39), .bin .add (.t 38) (.k (.int .i64 1)), none, 327936, 1, []⟩,
    ⟨(some 3), .mv (.t 39), none, 328192, 2, []⟩]))))))
 (.seq (.reg [⟨(some 2), .mv (.k (.bool true)), none, 524288, 0, []⟩])
 (.ret))))⟩
/-- loop.example/g00849/laws.toStringS -/
def F106 : F := ⟨1, 22, [.t 2],
 .seq (.reg [⟨(some 2), .nil0 true 1, none, 0, 0, []⟩])
 (.seq (.reg [⟨(some 5), .mv (.t 0), none, 65536, 0, []⟩,
   ⟨(some 6), .len false (.t 5), none, 65792, 1, []⟩,
   ⟨(some 7), .mksl true 1 16 [(.str ByteArray.empty)] (.t 6) (.t 6), none, 66048, 2, []⟩,
   ⟨(some 3), .mv (.t 7), none, 66304, 3, []⟩])
 (.seq (.seq (.reg [⟨(some 4), .mv (.k (.int .i64 0)), none, 131072, 0, []⟩])
 (.block 0 (.loop [0, 3, 4] [0, 66048]
  (.seq (.seq (.reg [⟨(some 8), .mv (.t 4), none, 196608, 0, []⟩,
    ⟨(some 9), .mv (.t 0), none, 196864, 1, []⟩,
    ⟨(some 10), .len false (.t 9), none, 197120, 2, []⟩,
    ⟨(some 11), .bin .lss (.t 8) (.t 10), none, 197376, 3, []⟩])
  (.cond (.t 11)
   (.skip)
   (.exit 0)))
  (.seq (.block 1 (.reg [⟨(some 14), .mv (.t 3), none, 327680, 0, []⟩,
    ⟨(some 15), .mv (.t 4), none, 327936, 1, []⟩,
    ⟨(some 16), .mv (.t 0), none, 328192, 2, []⟩,
    ⟨(some 17), .mv (.t 4), none, 328448, 3, []⟩,
    ⟨(some 18), .iaddr 1 (.t 16) (.t 17), none, 328704, 4, []⟩,
    ⟨(some 19), .load 1 false (.t 18), none, 328960, 5, []⟩,
    ⟨(some 20), .iaddr 1 (.t 14) (.t 15), none, 329216, 6, []⟩,
    ⟨none, .store 1 (.t 20) (.t 19), none, 329472, 7, []⟩]))
  (.reg [⟨(some 12), .mv (.t 4), none, 262144, 0, []⟩,
    ⟨(some 13), .bin .add (.t 12) (.k (.int .i64 1)), none, 262400, 1, []⟩,
    ⟨(some 4), .mv (.t 13), none, 262656, 2, []⟩]))))))
 (.seq (.reg [⟨(some 21), .mv (.t 3), none, 393216, 0, []⟩,
   ⟨(some 2), .mv (.t 21), none, 393472, 1, []⟩])
 (.ret))))⟩
/-- loop.example/g00849/spec.l05Within -/
def F113 : F := ⟨3, 20, [.t 6],
 .seq (.reg [⟨(some 3), .box (.t 0), none, 0, 0, []⟩,
   ⟨(some 6), .mv (.k (.bool false)), none, 256, 1, []⟩])
 (.seq (.reg [⟨(some 7), .mv (.t 1), none, 65536, 0, []⟩,
   ⟨(some 8), .faddr 3 (.t 3), none, 65792, 1, []⟩,
   ⟨(some 9), .load 1 false (.t 8), none, 66048, 2, []⟩,
   ⟨(some 10), .call 77 [(.t 7), (.k (.int .i64 0)), (.t 9)] true, none, 66304, 3, []⟩,
   ⟨(some 11), .mv (.t 10), none, 66560, 4, []⟩,
   ⟨(some 12), .mv (.t 2), (some (some 11, true)), 66816, 5, []⟩,
   ⟨(some 13), .len true (.t 12), (some (some 11, true)), 67072, 6, []⟩,
   ⟨(some 14), .faddr 3 (.t 3), (some (some 11, true)), 67328, 7, []⟩,
   ⟨(some 15), .load 1 false (.t 14), (some (some 11, true)), 67584, 8, []⟩,
   ⟨(some 16), .mv (.t 1), (some (some 11, true)), 67840, 9, []⟩,
   ⟨(some 17), .bin .sub (.t 15) (.t 16), (some (some 11, true)), 68096, 10, []⟩,
   ⟨(some 18), .bin .leq (.t 13) (.t 17), (some (some 11, true)), 68352, 11, []⟩,
   ⟨(some 19), .pick (.t 11) (.t 18) (.k (.bool false)), none, 68608, 12, []⟩,
   ⟨(some 6), .mv (.t 19), none, 68864, 13, []⟩])
 (.ret))⟩
/-- loop.example/g00849/spec.l05Deltas -/
def F114 : F := ⟨3, 43, [.t 6],
 .seq (.reg [⟨(some 3), .box (.t 0), none, 0, 0, []⟩,
   ⟨(some 6), .nil0 true 3, none, 256, 1, []⟩])
 (.seq (.reg [⟨(some 10), .bslice true 3 [(.int .i64 0), (.int .i64 0), (.str ByteArray.empty)] 0 [], none, 65536, 0, []⟩,
   ⟨(some 7), .mv (.t 10), none, 65792, 1, []⟩])
 (.seq (.seq (.reg [⟨(some 11), .mv (.t 2), none, 131072, 0, []⟩,
   ⟨(some 12), .len true (.t 11), none, 131328, 1, []⟩,
   ⟨(some 13), .bin .eql (.t 12) (.k (.int .i64 0)), none, 131584, 2, []⟩])
 (.cond (.t 13)
  (.seq (.reg [⟨(some 14), .mv (.t 7), none, 196608, 0, []⟩,
    ⟨(some 6), .mv (.t 14), none, 196864, 1, []⟩])
  (.ret))
  (.skip)))
 (.seq (.reg [⟨(some 15), .faddr 0 (.t 3), none, 262144, 0, []⟩,
   ⟨(some 16), .faddr 0 (.t 15), none, 262400, 1, []⟩,
   ⟨(some 17), .load 1 false (.t 16), none, 262656, 2, []⟩,
   ⟨(some 18), .faddr 2 (.t 3), none, 262912, 3, []⟩,
   ⟨(some 19), .load 1 false (.t 18), none, 263168, 4, []⟩,
   ⟨(some 20), .bin .mul (.t 17) (.t 19), none, 263424, 5, []⟩,
   ⟨(some 8), .mv (.t 20), none, 263680, 6, []⟩])
 (.seq (.seq (.reg [⟨(some 21), .mv (.t 1), none, 327680, 0, []⟩,
   ⟨(some 22), .mv (.t 8), none, 327936, 1, []⟩,
   ⟨(some 23), .bin .quo (.t 21) (.t 22), none, 328192, 2, []⟩,
   ⟨(some 9), .mv (.t 23), none, 328448, 3, []⟩])
 (.block 0 (.loop [1, 2, 3, 7, 8, 9] [0, 1, 2, 3, 4, 5, 256, 65536]
  (.seq (.seq (.reg [⟨(some 24), .mv (.t 9), none, 393216, 0, []⟩,
    ⟨(some 25), .mv (.t 1), none, 393472, 1, []⟩,
    ⟨(some 26), .mv (.t 2), none, 393728, 2, []⟩,
    ⟨(some 27), .len true (.t 26), none, 393984, 3, []⟩,
    ⟨(some 28), .bin .add (.t 25) (.t 27), none, 394240, 4, []⟩,
    ⟨(some 29), .bin .sub (.t 28) (.k (.int .i64 1)), none, 394496, 5, []⟩,
    ⟨(some 30), .mv (.t 8), none, 394752, 6, []⟩,
    ⟨(some 31), .bin .quo (.t 29) (.t 30), none, 395008, 7, []⟩,
    ⟨(some 32), .bin .leq (.t 24) (.t 31), none, 395264, 8, []⟩])
  (.cond (.t 32)
   (.skip)
   (.exit 0)))
  (.seq (.block 1 (.reg [⟨(some 35), .mv (.t 7), none, 524288, 0, []⟩,
    ⟨(some 36), .load 5 true (.t 3), none, 524544, 1, []⟩,
    ⟨(some 37), .mv (.t 9), none, 524800, 2, []⟩,
    ⟨(some 38), .mv (.t 1), none, 525056, 3, []⟩,
    ⟨(some 39), .mv (.t 2), none, 525312, 4, []⟩,
    ⟨(some 40), .call 144 [(.t 36), (.t 37), (.t 38), (.t 39)] false, none, 525568, 5, []⟩,
    ⟨(some 41), .app true 3 32 (.t 35) (.t 40), none, 525824, 6, []⟩,
    ⟨(some 7), .mv (.t 41), none, 526080, 7, []⟩]))
  (.reg [⟨(some 33), .mv (.t 9), none, 458752, 0, []⟩,
    ⟨(some 34), .bin .add (.t 33) (.k (.int .i64 1)), none, 459008, 1, []⟩,
    ⟨(some 9), .mv (.t 34), none, 459264, 2, []⟩]))))))
 (.seq (.reg [⟨(some 42), .mv (.t 7), none, 589824, 0, []⟩,
   ⟨(some 6), .mv (.t 42), none, 590080, 1, []⟩])
 (.ret))))))⟩
/-- (loop.example/g00849/impl.Wide).stripe -/
def F115 : F := ⟨1, 9, [.t 2],
 .seq (.reg [⟨(some 1), .box (.t 0), none, 0, 0, []⟩,
   ⟨(some 2), .mv (.k (.int .i64 0)), none, 256, 1, []⟩])
 (.seq (.reg [⟨(some 3), .faddr 0 (.t 1), none, 65536, 0, []⟩,
   ⟨(some 4), .faddr 0 (.t 3), none, 65792, 1, []⟩,
   ⟨(some 5), .load 1 false (.t 4), none, 66048, 2, []⟩,
   ⟨(some 6), .faddr 2 (.t 1), none, 66304, 3, []⟩,
   ⟨(some 7), .load 1 false (.t 6), none, 66560, 4, []⟩,
   ⟨(some 8), .bin .mul (.t 5) (.t 7), none, 66816, 5, []⟩,
   ⟨(some 2), .mv (.t 8), none, 67072, 6, []⟩])
 (.ret))⟩
/-- (loop.example/g00849/impl.Wide).deltas -/
def F116 : F := ⟨3, 90, [.t 6],
 .seq (.reg [⟨(some 3), .box (.t 0), none, 0, 0, []⟩,
   ⟨(some 5), .box (.t 2), none, 256, 1, []⟩,
   ⟨(some 6), .nil0 true 3, none, 512, 2, []⟩])
 (.seq (.reg [⟨(some 7), .nil0 true 3, none, 65536, 0, []⟩])
 (.seq (.reg [⟨(some 8), .nil0 true 1, none, 131072, 0, []⟩])
 (.seq (.reg [⟨(some 14), .mv (.t 1), none, 196608, 0, []⟩,
   ⟨(some 15), .faddr 2 (.t 3), none, 196864, 1, []⟩,
   ⟨(some 16), .load 1 false (.t 15), none, 197120, 2, []⟩,
   ⟨(some 17), .bin .mul (.t 14) (.t 16), none, 197376, 3, []⟩,
   ⟨(some 9), .mv (.t 17), none, 197632, 4, []⟩])
 (.seq (.seq (.reg [⟨(some 18), .faddr 0 (.t 5), none, 262144, 0, []⟩,
   ⟨(some 19), .load 1 false (.t 18), none, 262400, 1, []⟩,
   ⟨(some 20), .len false (.t 19), none, 262656, 2, []⟩,
   ⟨(some 21), .mv (.k (.int .i64 0)), none, 262912, 3, []⟩])
 (.block 0 (.loop [3, 5, 7, 8, 9, 19, 20, 21] [0, 1, 2, 3, 4, 5, 256, 257, 258, 259, 260, 261, 512, 65536, 131072, 721664, 721665, 721666, 721667, 984320, 984576]
  (.seq (.reg [⟨(some 22), .bin .lss (.t 21) (.t 20), none, 327680, 0, []⟩])
  (.seq (.cond (.t 22)
   (.skip)
   (.exit 0))
  (.seq (.block 1 (.seq (.reg [⟨(some 23), .mv (.t 21), none, 393216, 0, []⟩,
    ⟨(some 24), .iaddr 1 (.t 19) (.t 21), none, 393472, 1, []⟩,
    ⟨(some 25), .load 1 false (.t 24), none, 393728, 2, []⟩,
    ⟨(some 10), .mv (.t 23), none, 393984, 3, []⟩,
    ⟨(some 11), .mv (.t 25), none, 394240, 4, []⟩])
  (.seq (.reg [⟨(some 26), .mv (.t 8), none, 458752, 0, []⟩,
    ⟨(some 27), .mv (.t 11), none, 459008, 1, []⟩,
    ⟨(some 28), .b2s (.t 27), none, 459264, 2, []⟩,
    ⟨(some 29), .bslice true 1 [(.str ByteArray.empty)] 1 [(0, (.t 28))], none, 459520, 3, []⟩,
    ⟨(some 30), .app true 1 16 (.t 26) (.t 29), none, 459776, 4, []⟩,
    ⟨(some 8), .mv (.t 30), none, 460032, 5, []⟩])
  (.seq (.reg [⟨(some 31), .faddr 1 (.t 5), none, 524288, 0, []⟩,
    ⟨(some 32), .load 1 false (.t 31), none, 524544, 1, []⟩,
    ⟨(some 33), .mv (.t 10), none, 524800, 2, []⟩,
    ⟨(some 34), .iaddr 1 (.t 32) (.t 33), none, 525056, 3, []⟩,
    ⟨(some 35), .load 1 false (.t 34), none, 525312, 4, []⟩,
    ⟨(some 36), .bin .geq (.t 35) (.k (.int .i64 0)), none, 525568, 5, []⟩])
  (.cond (.t 36)
   (.reg [⟨(some 37), .mv (.t 7), none, 589824, 0, []⟩,
     ⟨(some 38), .mv (.t 10), none, 590080, 1, []⟩,
     ⟨(some 39), .faddr 1 (.t 5), none, 590336, 2, []⟩,
     ⟨(some 40), .load 1 false (.t 39), none, 590592, 3, []⟩,
     ⟨(some 41), .mv (.t 10), none, 590848, 4, []⟩,
     ⟨(some 42), .iaddr 1 (.t 40) (.t 41), none, 591104, 5, []⟩,
     ⟨(some 43), .load 1 false (.t 42), none, 591360, 6, []⟩,
     ⟨(some 44), .mv (.t 11), none, 591616, 7, []⟩,
     ⟨(some 45), .faddr 1 (.t 5), none, 591872, 8, []⟩,
     ⟨(some 46), .load 1 false (.t 45), none, 592128, 9, []⟩,
     ⟨(some 47), .mv (.t 10), none, 592384, 10, []⟩,
     ⟨(some 48), .iaddr 1 (.t 46) (.t 47), none, 592640, 11, []⟩,
     ⟨(some 49), .load 1 false (.t 48), none, 592896, 12, []⟩,
     ⟨(some 50), .mv (.t 9), none, 593152, 13, []⟩,
     ⟨(some 51), .bin .sub (.t 49) (.t 50), none, 593408, 14, []⟩,
     ⟨(some 52), .faddr 2 (.t 5), none, 593664, 15, []⟩,
     ⟨(some 53), .load 1 false (.t 52), none, 593920, 16, []⟩,
     ⟨(some 54), .mv (.t 10), none, 594176, 17, []⟩,
     ⟨(some 55), .iaddr 1 (.t 53) (.t 54), none, 594432, 18, []⟩,
     ⟨(some 56), .load 1 false (.t 55), none, 594688, 19, []⟩,
     ⟨(some 57), .mv (.t 9), none, 594944, 20, []⟩,
     ⟨(some 58), .bin .sub (.t 56) (.t 57), none, 595200, 21, []⟩,
     ⟨(some 59), .bin .add (.t 58) (.k (.int .i64 1)), none, 595456, 22, []⟩,
     ⟨(some 60), .cut 1 (.t 44) (some (.t 51)) (some (.t 59)), none, 595712, 23, []⟩,
     ⟨(some 61), .b2s (.t 60), none, 595968, 24, []⟩,
     ⟨(some 62), .build [(.int .i64 0), (.int .i64 0), (.str ByteArray.empty)] [(0, 1, (.t 38)), (1, 1, (.t 43)), (2, 1, (.t 61))], none, 596224, 25, []⟩,
     ⟨(some 63), .bslice true 3 [(.int .i64 0), (.int .i64 0), (.str ByteArray.empty)] 1 [(0, (.t 62))], none, 596480, 26, []⟩,
     ⟨(some 64), .app true 3 32 (.t 37) (.t 63), none, 596736, 27, []⟩,
     ⟨(some 7), .mv (.t 64), none, 596992, 28, []⟩])
   (.skip))))))
  (.reg [⟨(some 65), .bin .add (.t 21) (.k (.int .i64 1)), none, 655360, 0, []⟩,
    ⟨(some 21), .mv (.t 65), none, 655616, 1, []⟩])))))))
 (.seq (.seq (.reg [⟨(some 66), .faddr 0 (.t 3), none, 720896, 0, []⟩,
   ⟨(some 67), .load 2 true (.t 66), none, 721152, 1, []⟩,
   ⟨(some 68), .mv (.t 8), none, 721408, 2, []⟩,
   ⟨(some 69), .call 80 [(.t 67), (.t 68)] false, none, 721664, 3, []⟩,
   ⟨(some 70), .len false (.t 69), none, 721920, 4, []⟩,
   ⟨(some 71), .mv (.k (.int .i64 0)), none, 722176, 5, []⟩])
 (.block 2 (.loop [3, 7, 9, 69, 70, 71] [0, 1, 2, 3, 4, 5, 256, 257, 258, 259, 260, 261, 512, 65536, 131072, 459520, 459776, 596480, 596736, 721664, 721665, 721666, 721667]
  (.seq (.reg [⟨(some 72), .bin .lss (.t 71) (.t 70), none, 786432, 0, []⟩])
  (.seq (.cond (.t 72)
   (.skip)
   (.exit 2))
  (.seq (.block 3 (.seq (.reg [⟨(some 73), .mv (.t 71), none, 851968, 0, []⟩,
    ⟨(some 74), .iaddr 1 (.t 69) (.t 71), none, 852224, 1, []⟩,
    ⟨(some 75), .load 1 false (.t 74), none, 852480, 2, []⟩,
    ⟨(some 12), .mv (.t 73), none, 852736, 3, []⟩,
    ⟨(some 13), .mv (.t 75), none, 852992, 4, []⟩])
  (.seq (.reg [⟨(some 76), .mv (.t 12), none, 917504, 0, []⟩,
    ⟨(some 77), .faddr 0 (.t 3), none, 917760, 1, []⟩,
    ⟨(some 78), .faddr 0 (.t 77), none, 918016, 2, []⟩,
    ⟨(some 79), .load 1 false (.t 78), none, 918272, 3, []⟩,
    ⟨(some 80), .bin .geq (.t 76) (.t 79), none, 918528, 4, []⟩])
  (.cond (.t 80)
   (.reg [⟨(some 81), .mv (.t 7), none, 983040, 0, []⟩,
     ⟨(some 82), .mv (.t 12), none, 983296, 1, []⟩,
     ⟨(some 83), .mv (.t 9), none, 983552, 2, []⟩,
     ⟨(some 84), .mv (.t 13), none, 983808, 3, []⟩,
     ⟨(some 85), .build [(.int .i64 0), (.int .i64 0), (.str ByteArray.empty)] [(0, 1, (.t 82)), (1, 1, (.t 83)), (2, 1, (.t 84))], none, 984064, 4, []⟩,
     ⟨(some 86), .bslice true 3 [(.int .i64 0), (.int .i64 0), (.str ByteArray.empty)] 1 [(0, (.t 85))], none, 984320, 5, []⟩,
     ⟨(some 87), .app true 3 32 (.t 81) (.t 86), none, 984576, 6, []⟩,
     ⟨(some 7), .mv (.t 87), none, 984832, 7, []⟩])
   (.skip)))))
  (.reg [⟨(some 88), .bin .add (.t 71) (.k (.int .i64 1)), none, 1048576, 0, []⟩,
    ⟨(some 71), .mv (.t 88), none, 1048832, 1, []⟩])))))))
 (.seq (.reg [⟨(some 89), .mv (.t 7), none, 1114112, 0, []⟩,
   ⟨(some 6), .mv (.t 89), none, 1114368, 1, []⟩])
 (.ret)))))))⟩
/-- (loop.example/g00849/impl.Wide).changeOf -/
def F117 : F := ⟨4, 107, [.cell 8 3 true],
 .seq (.reg [⟨(some 4), .box (.t 0), none, 0, 0, []⟩,
   ⟨(some 8), .alloc [(.nil false 1), (.nil true 1), (.nil true 1)], none, 256, 1, []⟩])
 (.seq (.reg [⟨(some 15), .bslice true 1 [(.int .i64 0)] 1 [(0, (.k (.int .i64 (-1))))], none, 65536, 0, [(.t 4)]⟩,
   ⟨(some 16), .faddr 0 (.t 4), none, 65792, 1, []⟩,
   ⟨(some 17), .faddr 0 (.t 16), none, 66048, 2, [(.t 4)]⟩,
   ⟨(some 18), .load 1 false (.t 17), none, 66304, 3, [(.t 4)]⟩,
   ⟨(some 19), .call 145 [(.t 15), (.t 18)] false, none, 66560, 4, [(.t 4)]⟩,
   ⟨(some 20), .faddr 0 (.t 4), none, 66816, 5, []⟩,
   ⟨(some 21), .faddr 0 (.t 20), none, 67072, 6, [(.t 4)]⟩,
   ⟨(some 22), .load 1 false (.t 21), none, 67328, 7, [(.t 4)]⟩,
   ⟨(some 23), .mksl true 1 8 [(.int .i64 0)] (.t 22) (.t 22), none, 67584, 8, []⟩,
   ⟨(some 24), .build [(.nil false 1), (.nil true 1), (.nil true 1)] [(1, 1, (.t 19)), (2, 1, (.t 23))], none, 67840, 9, []⟩,
   ⟨(some 9), .alloc [(.nil false 1), (.nil true 1), (.nil true 1)], none, 68096, 10, []⟩,
   ⟨none, .stm 3 (.t 9) (.t 24), none, 68352, 11, []⟩])
 (.seq (.seq (.reg [⟨(some 25), .faddr 0 (.t 4), none, 131072, 0, []⟩,
   ⟨(some 26), .faddr 0 (.t 25), none, 131328, 1, []⟩,
   ⟨(some 27), .load 1 false (.t 26), none, 131584, 2, []⟩,
   ⟨(some 28), .mv (.k (.int .i64 0)), none, 131840, 3, []⟩])
 (.block 0 (.loop [1, 2, 3, 4, 8, 9, 27, 28] [0, 1, 2, 3, 4, 5, 256, 257, 258, 259, 65536, 66560, 66561, 66562, 66563, 67584, 68096, 68097, 68098, 68099, 68353, 68354, 68355, 726785, 853249, 918785, 983297, 983298, 983299]
  (.seq (.reg [⟨(some 29), .bin .lss (.t 28) (.t 27), none, 196608, 0, []⟩])
  (.seq (.cond (.t 29)
   (.skip)
   (.exit 0))
  (.seq (.block 1 (.reg [⟨(some 30), .faddr 0 (.t 9), none, 262144, 0, []⟩,
    ⟨(some 31), .load 1 false (.t 30), none, 262400, 1, []⟩,
    ⟨(some 32), .faddr 2 (.t 4), none, 262656, 2, []⟩,
    ⟨(some 33), .load 1 false (.t 32), none, 262912, 3, []⟩,
    ⟨(some 34), .mksl true 1 1 [(.int .u8 0)] (.t 33) (.t 33), none, 263168, 4, []⟩,
    ⟨(some 35), .bsm false 1 [(.nil true 1)] 1 [(0, (.t 34))], none, 263424, 5, []⟩,
    ⟨(some 36), .apm false 1 24 (.t 31) (.t 35), none, 263680, 6, []⟩,
    ⟨(some 37), .faddr 0 (.t 9), none, 263936, 7, []⟩,
    ⟨none, .stm 1 (.t 37) (.t 36), none, 264192, 8, []⟩]))
  (.reg [⟨(some 38), .bin .add (.t 28) (.k (.int .i64 1)), none, 327680, 0, []⟩,
    ⟨(some 28), .mv (.t 38), none, 327936, 1, []⟩])))))))
 (.seq (.reg [⟨(some 39), .mv (.t 2), none, 393216, 0, []⟩,
   ⟨(some 40), .mv (.t 1), none, 393472, 1, []⟩,
   ⟨(some 41), .load 5 true (.t 4), none, 393728, 2, []⟩,
   ⟨(some 42), .call 115 [(.t 41)] true, none, 393984, 3, []⟩,
   ⟨(some 43), .bin .mul (.t 40) (.t 42), none, 394240, 4, []⟩,
   ⟨(some 44), .max (.t 39) (.t 43), none, 394496, 5, []⟩,
   ⟨(some 45), .mv (.t 2), none, 394752, 6, []⟩,
   ⟨(some 46), .mv (.t 3), none, 395008, 7, []⟩,
   ⟨(some 47), .len true (.t 46), none, 395264, 8, []⟩,
   ⟨(some 48), .bin .add (.t 45) (.t 47), none, 395520, 9, []⟩,
   ⟨(some 49), .mv (.t 1), none, 395776, 10, []⟩,
   ⟨(some 50), .bin .add (.t 49) (.k (.int .i64 1)), none, 396032, 11, []⟩,
   ⟨(some 51), .load 5 true (.t 4), none, 396288, 12, []⟩,
   ⟨(some 52), .call 115 [(.t 51)] true, none, 396544, 13, []⟩,
   ⟨(some 53), .bin .mul (.t 50) (.t 52), none, 396800, 14, []⟩,
   ⟨(some 54), .min (.t 48) (.t 53), none, 397056, 15, []⟩,
   ⟨(some 10), .mv (.t 44), none, 397312, 16, []⟩,
   ⟨(some 11), .mv (.t 54), none, 397568, 17, []⟩])
 (.seq (.seq (.reg [⟨(some 55), .mv (.t 10), none, 458752, 0, []⟩,
   ⟨(some 12), .mv (.t 55), none, 459008, 1, []⟩])
 (.block 2 (.loop [2, 3, 4, 8, 9, 11, 12] [0, 1, 2, 3, 4, 5, 256, 257, 258, 259, 65536, 66560, 66561, 66562, 66563, 67584, 68096, 68097, 68098, 68099, 68353, 68354, 68355, 263168, 263424, 263425, 263680, 264193, 983297, 983298, 983299]
  (.seq (.seq (.reg [⟨(some 56), .mv (.t 12), none, 524288, 0, []⟩,
    ⟨(some 57), .mv (.t 11), none, 524544, 1, []⟩,
    ⟨(some 58), .bin .lss (.t 56) (.t 57), none, 524800, 2, []⟩])
  (.cond (.t 58)
   (.skip)
   (.exit 2)))
  (.seq (.block 3 (.seq (.reg [⟨(some 62), .load 5 true (.t 4), none, 655360, 0, []⟩,
    ⟨(some 63), .mv (.t 12), none, 655616, 1, []⟩,
    ⟨(some 64), .call 101 [(.t 62), (.t 63)] true, none, 655872, 2, []⟩,
    ⟨(some 61), .mv (.t 64), none, 656128, 3, []⟩,
    ⟨(some 65), .ext (.t 61) 0, none, 656384, 4, []⟩,
    ⟨(some 66), .ext (.t 61) 1, none, 656640, 5, []⟩,
    ⟨(some 13), .mv (.t 65), none, 656896, 6, []⟩,
    ⟨(some 14), .mv (.t 66), none, 657152, 7, []⟩])
  (.seq (.reg [⟨(some 67), .faddr 0 (.t 9), none, 720896, 0, []⟩,
    ⟨(some 68), .load 1 false (.t 67), none, 721152, 1, []⟩,
    ⟨(some 69), .mv (.t 13), none, 721408, 2, []⟩,
    ⟨(some 70), .iaddr 1 (.t 68) (.t 69), none, 721664, 3, []⟩,
    ⟨(some 71), .load 1 false (.t 70), none, 721920, 4, []⟩,
    ⟨(some 72), .mv (.t 12), none, 722176, 5, []⟩,
    ⟨(some 73), .faddr 2 (.t 4), none, 722432, 6, []⟩,
    ⟨(some 74), .load 1 false (.t 73), none, 722688, 7, []⟩,
    ⟨(some 75), .bin .rem (.t 72) (.t 74), none, 722944, 8, []⟩,
    ⟨(some 76), .mv (.t 3), none, 723200, 9, []⟩,
    ⟨(some 77), .mv (.t 12), none, 723456, 10, []⟩,
    ⟨(some 78), .mv (.t 2), none, 723712, 11, []⟩,
    ⟨(some 79), .bin .sub (.t 77) (.t 78), none, 723968, 12, []⟩,
    ⟨(some 80), .idx (.t 76) (.t 79), none, 724224, 13, []⟩,
    ⟨(some 81), .faddr 4 (.t 4), none, 724480, 14, []⟩,
    ⟨(some 82), .load 1 false (.t 81), none, 724736, 15, []⟩,
    ⟨(some 83), .mv (.t 13), none, 724992, 16, []⟩,
    ⟨(some 84), .iaddr 1 (.t 82) (.t 83), none, 725248, 17, []⟩,
    ⟨(some 85), .load 1 false (.t 84), none, 725504, 18, []⟩,
    ⟨(some 86), .mv (.t 14), none, 725760, 19, []⟩,
    ⟨(some 87), .idx (.t 85) (.t 86), none, 726016, 20, []⟩,
    ⟨(some 88), .bin .xor (.t 80) (.t 87), none, 726272, 21, []⟩,
    ⟨(some 89), .iaddr 1 (.t 71) (.t 75), none, 726528, 22, []⟩,
    ⟨none, .stm 1 (.t 89) (.t 88), none, 726784, 23, []⟩])
  (.seq (.seq (.reg [⟨(some 90), .faddr 1 (.t 9), none, 786432, 0, []⟩,
    ⟨(some 91), .load 1 false (.t 90), none, 786688, 1, []⟩,
    ⟨(some 92), .mv (.t 13), none, 786944, 2, []⟩,
    ⟨(some 93), .iaddr 1 (.t 91) (.t 92), none, 787200, 3, []⟩,
    ⟨(some 94), .load 1 false (.t 93), none, 787456, 4, []⟩,
    ⟨(some 95), .bin .lss (.t 94) (.k (.int .i64 0)), none, 787712, 5, []⟩])
  (.cond (.t 95)
   (.reg [⟨(some 96), .faddr 1 (.t 9), none, 851968, 0, []⟩,
     ⟨(some 97), .load 1 false (.t 96), none, 852224, 1, []⟩,
     ⟨(some 98), .mv (.t 13), none, 852480, 2, []⟩,
     ⟨(some 99), .mv (.t 14), none, 852736, 3, []⟩,
     ⟨(some 100), .iaddr 1 (.t 97) (.t 98), none, 852992, 4, []⟩,
     ⟨none, .stm 1 (.t 100) (.t 99), none, 853248, 5, []⟩])
   (.skip)))
  (.reg [⟨(some 101), .faddr 2 (.t 9), none, 917504, 0, []⟩,
    ⟨(some 102), .load 1 false (.t 101), none, 917760, 1, []⟩,
    ⟨(some 103), .mv (.t 13), none, 918016, 2, []⟩,
    ⟨(some 104), .mv (.t 14), none, 918272, 3, []⟩,
    ⟨(some 105), .iaddr 1 (.t 102) (.t 103), none, 918528, 4, []⟩,
    ⟨none, .stm 1 (.t 105) (.t 104), none, 918784, 5, []⟩])))))
  (.reg [⟨(some 59), .mv (.t 12), none, 589824, 0, []⟩,
    ⟨(some 60), .bin .add (.t 59) (.k (.int .i64 1)), none, 590080, 1, []⟩,
    ⟨(some 12), .mv (.t 60), none, 590336, 2, []⟩]))))))
 (.seq (.reg [⟨(some 106), .load 3 true (.t 9), none, 983040, 0, []⟩,
   ⟨none, .stm 3 (.t 8) (.t 106), none, 983296, 1, []⟩])
 (.ret))))))⟩
/-- loop.example/g00849/laws.eqDelta -/
def F118 : F := ⟨2, 20, [.t 4],
 .seq (.reg [⟨(some 2), .box (.t 0), none, 0, 0, []⟩,
   ⟨(some 3), .box (.t 1), none, 256, 1, []⟩,
   ⟨(some 4), .mv (.k (.bool false)), none, 512, 2, []⟩])
 (.seq (.seq (.reg [⟨(some 5), .faddr 0 (.t 2), none, 65536, 0, []⟩,
   ⟨(some 6), .load 1 false (.t 5), none, 65792, 1, []⟩,
   ⟨(some 7), .faddr 0 (.t 3), none, 66048, 2, []⟩,
   ⟨(some 8), .load 1 false (.t 7), none, 66304, 3, []⟩,
   ⟨(some 9), .bin .neq (.t 6) (.t 8), none, 66560, 4, []⟩])
 (.cond (.t 9)
  (.seq (.reg [⟨(some 4), .mv (.k (.bool false)), none, 131072, 0, []⟩])
  (.ret))
  (.skip)))
 (.seq (.seq (.reg [⟨(some 10), .faddr 1 (.t 2), none, 196608, 0, []⟩,
   ⟨(some 11), .load 1 false (.t 10), none, 196864, 1, []⟩,
   ⟨(some 12), .faddr 1 (.t 3), none, 197120, 2, []⟩,
   ⟨(some 13), .load 1 false (.t 12), none, 197376, 3, []⟩,
   ⟨(some 14), .bin .neq (.t 11) (.t 13), none, 197632, 4, []⟩])
 (.cond (.t 14)
  (.seq (.reg [⟨(some 4), .mv (.k (.bool false)), none, 262144, 0, []⟩])
  (.ret))
  (.skip)))
 (.seq (.seq (.reg [⟨(some 15), .faddr 2 (.t 2), none, 327680, 0, []⟩,
   ⟨(some 16), .load 1 false (.t 15), none, 327936, 1, []⟩,
   ⟨(some 17), .faddr 2 (.t 3), none, 328192, 2, []⟩,
   ⟨(some 18), .load 1 false (.t 17), none, 328448, 3, []⟩,
   ⟨(some 19), .bin .neq (.t 16) (.t 18), none, 328704, 4, []⟩])
 (.cond (.t 19)
  (.seq (.reg [⟨(some 4), .mv (.k (.bool false)), none, 393216, 0, []⟩])
  (.ret))
  (.skip)))
 (.seq (.reg [⟨(some 4), .mv (.k (.bool true)), none, 458752, 0, []⟩])
 (.ret)))))⟩
/-- loop.example/g00849/spec.l05Take -/
def F119 : F := ⟨2, 50, [.cell 4 5 true],
 .seq (.reg [⟨(some 2), .box (.t 0), none, 0, 0, []⟩,
   ⟨(some 3), .box (.t 1), none, 256, 1, []⟩,
   ⟨(some 4), .alloc [(.int .i64 0), (.int .i64 0), (.int .i64 0), (.int .i64 0), (.nil true 1)], none, 512, 2, []⟩])
 (.seq (.reg [⟨(some 8), .bslice true 1 [(.str ByteArray.empty)] 0 [], none, 65536, 0, []⟩,
   ⟨(some 9), .faddr 4 (.t 2), none, 65792, 1, []⟩,
   ⟨(some 10), .load 1 false (.t 9), none, 66048, 2, []⟩,
   ⟨(some 11), .app true 1 16 (.t 8) (.t 10), none, 66304, 3, []⟩,
   ⟨(some 5), .mv (.t 11), none, 66560, 4, []⟩])
 (.seq (.reg [⟨(some 12), .mv (.t 5), none, 131072, 0, []⟩,
   ⟨(some 13), .faddr 0 (.t 3), none, 131328, 1, []⟩,
   ⟨(some 14), .load 1 false (.t 13), none, 131584, 2, []⟩,
   ⟨(some 15), .iaddr 1 (.t 12) (.t 14), none, 131840, 3, []⟩,
   ⟨(some 16), .load 1 false (.t 15), none, 132096, 4, []⟩,
   ⟨(some 6), .mv (.t 16), none, 132352, 5, []⟩])
 (.seq (.reg [⟨(some 17), .faddr 2 (.t 3), none, 196608, 0, []⟩,
   ⟨(some 18), .load 1 false (.t 17), none, 196864, 1, []⟩,
   ⟨(some 19), .len true (.t 18), none, 197120, 2, []⟩,
   ⟨(some 7), .mv (.t 19), none, 197376, 3, []⟩])
 (.seq (.reg [⟨(some 20), .mv (.t 5), none, 262144, 0, []⟩,
   ⟨(some 21), .faddr 0 (.t 3), none, 262400, 1, []⟩,
   ⟨(some 22), .load 1 false (.t 21), none, 262656, 2, []⟩,
   ⟨(some 23), .mv (.t 6), none, 262912, 3, []⟩,
   ⟨(some 24), .faddr 1 (.t 3), none, 263168, 4, []⟩,
   ⟨(some 25), .load 1 false (.t 24), none, 263424, 5, []⟩,
   ⟨(some 26), .scut (.t 23) none (some (.t 25)), none, 263680, 6, []⟩,
   ⟨(some 27), .mv (.t 6), none, 263936, 7, []⟩,
   ⟨(some 28), .faddr 1 (.t 3), none, 264192, 8, []⟩,
   ⟨(some 29), .load 1 false (.t 28), none, 264448, 9, []⟩,
   ⟨(some 30), .faddr 1 (.t 3), none, 264704, 10, []⟩,
   ⟨(some 31), .load 1 false (.t 30), none, 264960, 11, []⟩,
   ⟨(some 32), .mv (.t 7), none, 265216, 12, []⟩,
   ⟨(some 33), .bin .add (.t 31) (.t 32), none, 265472, 13, []⟩,
   ⟨(some 34), .scut (.t 27) (some (.t 29)) (some (.t 33)), none, 265728, 14, []⟩,
   ⟨(some 35), .faddr 2 (.t 3), none, 265984, 15, []⟩,
   ⟨(some 36), .load 1 false (.t 35), none, 266240, 16, []⟩,
   ⟨(some 37), .call 146 [(.t 34), (.t 36)] true, none, 266496, 17, []⟩,
   ⟨(some 38), .bin .add (.t 26) (.t 37), none, 266752, 18, []⟩,
   ⟨(some 39), .mv (.t 6), none, 267008, 19, []⟩,
   ⟨(some 40), .faddr 1 (.t 3), none, 267264, 20, []⟩,
   ⟨(some 41), .load 1 false (.t 40), none, 267520, 21, []⟩,
   ⟨(some 42), .mv (.t 7), none, 267776, 22, []⟩,
   ⟨(some 43), .bin .add (.t 41) (.t 42), none, 268032, 23, []⟩,
   ⟨(some 44), .scut (.t 39) (some (.t 43)) none, none, 268288, 24, []⟩,
   ⟨(some 45), .bin .add (.t 38) (.t 44), none, 268544, 25, []⟩,
   ⟨(some 46), .iaddr 1 (.t 20) (.t 22), none, 268800, 26, []⟩,
   ⟨none, .store 1 (.t 46) (.t 45), none, 269056, 27, []⟩])
 (.seq (.reg [⟨(some 47), .mv (.t 5), none, 327680, 0, []⟩,
   ⟨(some 48), .faddr 4 (.t 2), none, 327936, 1, []⟩,
   ⟨none, .store 1 (.t 48) (.t 47), none, 328192, 2, []⟩])
 (.seq (.reg [⟨(some 49), .load 5 true (.t 2), none, 393216, 0, []⟩,
   ⟨none, .store 5 (.t 4) (.t 49), none, 393472, 1, []⟩])
 (.ret)))))))⟩
/-- slices.Clone[[]string,string] -/
def F120 : F := ⟨1, 8, [.t 2],
 .seq (.reg [⟨(some 2), .nil0 true 1, none, 0, 0, []⟩])
 (.seq (.seq (.reg [⟨(some 3), .mv (.t 0), none, 65536, 0, []⟩])
 (.ifnil false 4 (.t 3)
  (.seq (.reg [⟨(some 2), .nil0 true 1, none, 131072, 0, []⟩])
  (.ret))
  (.skip)))
 (.seq (.reg [⟨(some 5), .bslice true 1 [(.str ByteArray.empty)] 0 [], none, 196608, 0, []⟩,
   ⟨(some 6), .mv (.t 0), none, 196864, 1, []⟩,
   ⟨(some 7), .app true 1 16 (.t 5) (.t 6), none, 197120, 2, []⟩,
   ⟨(some 2), .mv (.t 7), none, 197376, 3, []⟩])
 (.ret)))⟩
/-- (loop.example/g00849/impl.Wide).take -/
def F121 : F := ⟨2, 46, [.cell 4 5 true],
 .seq (.reg [⟨(some 2), .box (.t 0), none, 0, 0, []⟩,
   ⟨(some 3), .box (.t 1), none, 256, 1, []⟩,
   ⟨(some 4), .alloc [(.int .i64 0), (.int .i64 0), (.int .i64 0), (.int .i64 0), (.nil true 1)], none, 512, 2, []⟩])
 (.seq (.reg [⟨(some 7), .faddr 4 (.t 2), none, 65536, 0, []⟩,
   ⟨(some 8), .load 1 false (.t 7), none, 65792, 1, []⟩,
   ⟨(some 9), .faddr 0 (.t 3), none, 66048, 2, []⟩,
   ⟨(some 10), .load 1 false (.t 9), none, 66304, 3, []⟩,
   ⟨(some 11), .iaddr 1 (.t 8) (.t 10), none, 66560, 4, []⟩,
   ⟨(some 12), .load 1 false (.t 11), none, 66816, 5, []⟩,
   ⟨(some 5), .mv (.t 12), none, 67072, 6, []⟩])
 (.seq (.reg [⟨(some 13), .faddr 1 (.t 3), none, 131072, 0, []⟩,
   ⟨(some 14), .load 1 false (.t 13), none, 131328, 1, []⟩,
   ⟨(some 15), .faddr 2 (.t 3), none, 131584, 2, []⟩,
   ⟨(some 16), .load 1 false (.t 15), none, 131840, 3, []⟩,
   ⟨(some 17), .len true (.t 16), none, 132096, 4, []⟩,
   ⟨(some 18), .bin .add (.t 14) (.t 17), none, 132352, 5, []⟩,
   ⟨(some 6), .mv (.t 18), none, 132608, 6, []⟩])
 (.seq (.reg [⟨(some 19), .faddr 4 (.t 2), none, 196608, 0, []⟩,
   ⟨(some 20), .load 1 false (.t 19), none, 196864, 1, []⟩,
   ⟨(some 21), .call 120 [(.t 20)] false, none, 197120, 2, []⟩,
   ⟨(some 22), .faddr 4 (.t 2), none, 197376, 3, []⟩,
   ⟨none, .store 1 (.t 22) (.t 21), none, 197632, 4, []⟩])
 (.seq (.reg [⟨(some 23), .faddr 4 (.t 2), none, 262144, 0, []⟩,
   ⟨(some 24), .load 1 false (.t 23), none, 262400, 1, []⟩,
   ⟨(some 25), .faddr 0 (.t 3), none, 262656, 2, []⟩,
   ⟨(some 26), .load 1 false (.t 25), none, 262912, 3, []⟩,
   ⟨(some 27), .mv (.t 5), none, 263168, 4, []⟩,
   ⟨(some 28), .faddr 1 (.t 3), none, 263424, 5, []⟩,
   ⟨(some 29), .load 1 false (.t 28), none, 263680, 6, []⟩,
   ⟨(some 30), .scut (.t 27) none (some (.t 29)), none, 263936, 7, []⟩,
   ⟨(some 31), .mv (.t 5), none, 264192, 8, []⟩,
   ⟨(some 32), .faddr 1 (.t 3), none, 264448, 9, []⟩,
   ⟨(some 33), .load 1 false (.t 32), none, 264704, 10, []⟩,
   ⟨(some 34), .mv (.t 6), none, 264960, 11, []⟩,
   ⟨(some 35), .scut (.t 31) (some (.t 33)) (some (.t 34)), none, 265216, 12, []⟩,
   ⟨(some 36), .faddr 2 (.t 3), none, 265472, 13, []⟩,
   ⟨(some 37), .load 1 false (.t 36), none, 265728, 14, []⟩,
   ⟨(some 38), .call 147 [(.t 35), (.t 37)] true, none, 265984, 15, []⟩,
   ⟨(some 39), .bin .add (.t 30) (.t 38), none, 266240, 16, []⟩,
   ⟨(some 40), .mv (.t 5), none, 266496, 17, []⟩,
   ⟨(some 41), .mv (.t 6), none, 266752, 18, []⟩,
   ⟨(some 42), .scut (.t 40) (some (.t 41)) none, none, 267008, 19, []⟩,
   ⟨(some 43), .bin .add (.t 39) (.t 42), none, 267264, 20, []⟩,
   ⟨(some 44), .iaddr 1 (.t 24) (.t 26), none, 267520, 21, []⟩,
   ⟨none, .store 1 (.t 44) (.t 43), none, 267776, 22, []⟩])
 (.seq (.reg [⟨(some 45), .load 5 true (.t 2), none, 327680, 0, []⟩,
   ⟨none, .store 5 (.t 4) (.t 45), none, 327936, 1, []⟩])
 (.ret))))))⟩
/-- (*loop.example/g00849/spec.l00Src).word -/
def F122 : F := ⟨2, 23, [.t 4],
 .seq (.reg [⟨(some 4), .mv (.k (.str ByteArray.empty)), none, 0, 0, []⟩])
 (.seq (.reg [⟨(some 7), .bslice true 1 [(.int .u8 0)] 0 [], none, 65536, 0, []⟩,
   ⟨(some 5), .mv (.t 7), none, 65792, 1, []⟩])
 (.seq (.seq (.reg [⟨(some 8), .mv (.t 0), none, 131072, 0, []⟩,
   ⟨(some 9), .mv (.t 1), none, 131328, 1, []⟩,
   ⟨(some 10), .call 134 [(.t 8), (.t 9)] true, none, 131584, 2, []⟩,
   ⟨(some 6), .mv (.t 10), none, 131840, 3, []⟩])
 (.block 0 (.loop [0, 5, 6] [65536]
  (.seq (.seq (.reg [⟨(some 11), .mv (.t 6), none, 196608, 0, []⟩,
    ⟨(some 12), .bin .gtr (.t 11) (.k (.int .i64 0)), none, 196864, 1, []⟩])
  (.cond (.t 12)
   (.skip)
   (.exit 0)))
  (.seq (.block 1 (.reg [⟨(some 15), .mv (.t 5), none, 327680, 0, []⟩,
    ⟨(some 16), .mv (.t 0), none, 327936, 1, []⟩,
    ⟨(some 17), .call 148 [(.t 16)] true, none, 328192, 2, []⟩,
    ⟨(some 18), .conv .u8 (.t 17), none, 328448, 3, []⟩,
    ⟨(some 19), .bslice true 1 [(.int .u8 0)] 1 [(0, (.t 18))], none, 328704, 4, []⟩,
    ⟨(some 20), .app true 1 1 (.t 15) (.t 19), none, 328960, 5, []⟩,
    ⟨(some 5), .mv (.t 20), none, 329216, 6, []⟩]))
  (.reg [⟨(some 13), .mv (.t 6), none, 262144, 0, []⟩,
    ⟨(some 14), .bin .sub (.t 13) (.k (.int .i64 1)), none, 262400, 1, []⟩,
    ⟨(some 6), .mv (.t 14), none, 262656, 2, []⟩]))))))
 (.seq (.reg [⟨(some 21), .mv (.t 5), none, 393216, 0, []⟩,
   ⟨(some 22), .b2s (.t 21), none, 393472, 1, []⟩,
   ⟨(some 4), .mv (.t 22), none, 393728, 2, []⟩])
 (.ret))))⟩
/-- loop.example/g00849/impl.generator -/
def F129 : F := ⟨2, 40, [.cell 4 3 true],
 .seq (.reg [⟨(some 4), .alloc [(.int .i64 0), (.int .i64 0), (.nil true 1)], none, 0, 0, []⟩])
 (.seq (.reg [⟨(some 8), .mv (.t 0), none, 65536, 0, []⟩,
   ⟨(some 9), .call 154 [(.t 8)] false, none, 65792, 1, []⟩,
   ⟨(some 5), .alloc [(.int .i64 0), (.int .i64 0), (.nil true 1)], none, 66048, 2, []⟩,
   ⟨none, .store 3 (.t 5) (.t 9), none, 66304, 3, []⟩])
 (.seq (.reg [⟨(some 10), .mv (.t 0), none, 131072, 0, []⟩,
   ⟨(some 11), .mv (.t 1), none, 131328, 1, []⟩,
   ⟨(some 12), .bin .add (.t 10) (.t 11), none, 131584, 2, []⟩,
   ⟨(some 13), .faddr 0 (.t 5), none, 131840, 3, []⟩,
   ⟨none, .store 1 (.t 13) (.t 12), none, 132096, 4, []⟩])
 (.seq (.seq (.reg [⟨(some 14), .mv (.t 1), none, 196608, 0, []⟩,
   ⟨(some 15), .mv (.k (.int .i64 0)), none, 196864, 1, []⟩])
 (.block 0 (.loop [0, 4, 5, 14, 15] [0, 3, 65792, 65793, 65794, 65795, 66048, 66051, 66305, 66306, 66307, 132097, 786689, 786690, 786691]
  (.seq (.reg [⟨(some 16), .bin .lss (.t 15) (.t 14), none, 262144, 0, []⟩])
  (.seq (.cond (.t 16)
   (.skip)
   (.exit 0))
  (.seq (.block 1 (.seq (.reg [⟨(some 17), .mv (.t 15), none, 327680, 0, []⟩,
    ⟨(some 6), .mv (.t 17), none, 327936, 1, []⟩])
  (.seq (.reg [⟨(some 18), .mv (.t 0), none, 393216, 0, []⟩,
    ⟨(some 19), .mv (.k (.int .i64 0)), none, 393472, 1, []⟩])
  (.block 2 (.loop [0, 4, 5, 6, 14, 15, 18, 19] [0, 3, 65792, 65793, 65794, 65795, 66048, 66051, 66305, 66306, 66307, 132097, 786689, 786690, 786691]
   (.seq (.reg [⟨(some 20), .bin .lss (.t 19) (.t 18), none, 458752, 0, []⟩])
   (.seq (.cond (.t 20)
    (.skip)
    (.exit 2))
   (.seq (.block 3 (.seq (.reg [⟨(some 21), .mv (.t 19), none, 524288, 0, []⟩,
     ⟨(some 7), .mv (.t 21), none, 524544, 1, []⟩])
   (.reg [⟨(some 22), .faddr 2 (.t 5), none, 589824, 0, []⟩,
     ⟨(some 23), .load 1 false (.t 22), none, 590080, 1, []⟩,
     ⟨(some 24), .mv (.t 0), none, 590336, 2, []⟩,
     ⟨(some 25), .mv (.t 6), none, 590592, 3, []⟩,
     ⟨(some 26), .bin .add (.t 24) (.t 25), none, 590848, 4, []⟩,
     ⟨(some 27), .mv (.t 0), none, 591104, 5, []⟩,
     ⟨(some 28), .mv (.t 6), none, 591360, 6, []⟩,
     ⟨(some 29), .bin .add (.t 27) (.t 28), none, 591616, 7, []⟩,
     ⟨(some 30), .mv (.t 7), none, 591872, 8, []⟩,
     ⟨(some 31), .bin .xor (.t 29) (.t 30), none, 592128, 9, []⟩,
     ⟨(some 32), .call 157 [(.t 31)] true, none, 592384, 10, []⟩,
     ⟨(some 33), .call 158 [(.t 26), (.t 32)] true, none, 592640, 11, []⟩,
     ⟨(some 34), .bslice true 1 [(.int .i64 0)] 1 [(0, (.t 33))], none, 592896, 12, []⟩,
     ⟨(some 35), .app true 1 8 (.t 23) (.t 34), none, 593152, 13, []⟩,
     ⟨(some 36), .faddr 2 (.t 5), none, 593408, 14, []⟩,
     ⟨none, .store 1 (.t 36) (.t 35), none, 593664, 15, []⟩])))
   (.reg [⟨(some 37), .bin .add (.t 19) (.k (.int .i64 1)), none, 655360, 0, []⟩,
     ⟨(some 19), .mv (.t 37), none, 655616, 1, []⟩])))))))))
  (.reg [⟨(some 38), .bin .add (.t 15) (.k (.int .i64 1)), none, 720896, 0, []⟩,
    ⟨(some 15), .mv (.t 38), none, 721152, 1, []⟩])))))))
 (.seq (.reg [⟨(some 39), .load 3 true (.t 5), none, 786432, 0, []⟩,
   ⟨none, .store 3 (.t 4) (.t 39), none, 786688, 1, []⟩])
 (.ret)))))⟩
/-- (loop.example/g00849/impl.Matrix).pieces -/
def F131 : F := ⟨2, 44, [.t 4],
 .seq (.reg [⟨(some 2), .box (.t 0), none, 0, 0, []⟩,
   ⟨(some 4), .nil0 true 1, none, 256, 1, []⟩])
 (.seq (.reg [⟨(some 5), .nil0 true 1, none, 65536, 0, []⟩])
 (.seq (.seq (.reg [⟨(some 10), .faddr 0 (.t 2), none, 131072, 0, []⟩,
   ⟨(some 11), .load 1 false (.t 10), none, 131328, 1, []⟩,
   ⟨(some 12), .mv (.k (.int .i64 0)), none, 131584, 2, []⟩])
 (.block 0 (.loop [1, 2, 5, 11, 12] [0, 1, 2, 3, 4, 5, 256, 65536]
  (.seq (.reg [⟨(some 13), .bin .lss (.t 12) (.t 11), none, 196608, 0, []⟩])
  (.seq (.cond (.t 13)
   (.skip)
   (.exit 0))
  (.seq (.block 1 (.seq (.reg [⟨(some 14), .mv (.t 12), none, 262144, 0, []⟩,
    ⟨(some 6), .mv (.t 14), none, 262400, 1, []⟩])
  (.seq (.reg [⟨(some 15), .mv (.t 1), none, 327680, 0, []⟩,
    ⟨(some 16), .iaddr 1 (.t 15) (.k (.int .i64 0)), none, 327936, 1, []⟩,
    ⟨(some 17), .load 1 false (.t 16), none, 328192, 2, []⟩,
    ⟨(some 18), .len true (.t 17), none, 328448, 3, []⟩,
    ⟨(some 19), .call 135 [(.k (.str ⟨#[0]⟩)), (.t 18)] true, none, 328704, 4, []⟩,
    ⟨(some 7), .mv (.t 19), none, 328960, 5, []⟩])
  (.seq (.seq (.reg [⟨(some 20), .load 3 true (.t 2), none, 393216, 0, []⟩,
    ⟨(some 21), .mv (.t 6), none, 393472, 1, []⟩,
    ⟨(some 22), .call 155 [(.t 20), (.t 21)] false, none, 393728, 2, []⟩,
    ⟨(some 23), .len false (.t 22), none, 393984, 3, []⟩,
    ⟨(some 24), .mv (.k (.int .i64 0)), none, 394240, 4, []⟩])
  (.block 2 (.loop [1, 2, 5, 7, 11, 12, 22, 23, 24] [0, 1, 2, 3, 4, 5, 256, 65536, 393728, 393729, 393730, 393731, 721408, 721664]
   (.seq (.reg [⟨(some 25), .bin .lss (.t 24) (.t 23), none, 458752, 0, []⟩])
   (.seq (.cond (.t 25)
    (.skip)
    (.exit 2))
   (.seq (.block 3 (.seq (.reg [⟨(some 26), .mv (.t 24), none, 524288, 0, []⟩,
     ⟨(some 27), .iaddr 1 (.t 22) (.t 24), none, 524544, 1, []⟩,
     ⟨(some 28), .load 1 false (.t 27), none, 524800, 2, []⟩,
     ⟨(some 8), .mv (.t 26), none, 525056, 3, []⟩,
     ⟨(some 9), .mv (.t 28), none, 525312, 4, []⟩])
   (.reg [⟨(some 29), .mv (.t 7), none, 589824, 0, []⟩,
     ⟨(some 30), .mv (.t 9), none, 590080, 1, []⟩,
     ⟨(some 31), .mv (.t 1), none, 590336, 2, []⟩,
     ⟨(some 32), .mv (.t 8), none, 590592, 3, []⟩,
     ⟨(some 33), .iaddr 1 (.t 31) (.t 32), none, 590848, 4, []⟩,
     ⟨(some 34), .load 1 false (.t 33), none, 591104, 5, []⟩,
     ⟨(some 35), .call 159 [(.t 30), (.t 34)] true, none, 591360, 6, []⟩,
     ⟨(some 36), .call 147 [(.t 29), (.t 35)] true, none, 591616, 7, []⟩,
     ⟨(some 7), .mv (.t 36), none, 591872, 8, []⟩])))
   (.reg [⟨(some 37), .bin .add (.t 24) (.k (.int .i64 1)), none, 655360, 0, []⟩,
     ⟨(some 24), .mv (.t 37), none, 655616, 1, []⟩])))))))
  (.reg [⟨(some 38), .mv (.t 5), none, 720896, 0, []⟩,
    ⟨(some 39), .mv (.t 7), none, 721152, 1, []⟩,
    ⟨(some 40), .bslice true 1 [(.str ByteArray.empty)] 1 [(0, (.t 39))], none, 721408, 2, []⟩,
    ⟨(some 41), .app true 1 16 (.t 38) (.t 40), none, 721664, 3, []⟩,
    ⟨(some 5), .mv (.t 41), none, 721920, 4, []⟩])))))
  (.reg [⟨(some 42), .bin .add (.t 12) (.k (.int .i64 1)), none, 786432, 0, []⟩,
    ⟨(some 12), .mv (.t 42), none, 786688, 1, []⟩])))))))
 (.seq (.reg [⟨(some 43), .mv (.t 5), none, 851968, 0, []⟩,
   ⟨(some 4), .mv (.t 43), none, 852224, 1, []⟩])
 (.ret))))⟩
/-- loop.example/g00849/spec.l03Pieces -/
def F132 : F := ⟨2, 48, [.t 4],
 .seq (.reg [⟨(some 2), .box (.t 0), none, 0, 0, []⟩,
   ⟨(some 4), .nil0 true 1, none, 256, 1, []⟩])
 (.seq (.reg [⟨(some 9), .bslice true 1 [(.str ByteArray.empty)] 0 [], none, 65536, 0, []⟩,
   ⟨(some 5), .mv (.t 9), none, 65792, 1, []⟩])
 (.seq (.seq (.reg [⟨(some 6), .mv (.k (.int .i64 0)), none, 131072, 0, []⟩])
 (.block 0 (.loop [1, 2, 5, 6] [0, 1, 2, 3, 4, 5, 256, 65536]
  (.seq (.seq (.reg [⟨(some 10), .mv (.t 6), none, 196608, 0, []⟩,
    ⟨(some 11), .faddr 0 (.t 2), none, 196864, 1, []⟩,
    ⟨(some 12), .load 1 false (.t 11), none, 197120, 2, []⟩,
    ⟨(some 13), .bin .lss (.t 10) (.t 12), none, 197376, 3, []⟩])
  (.cond (.t 13)
   (.skip)
   (.exit 0)))
  (.seq (.block 1 (.seq (.reg [⟨(some 16), .mv (.t 1), none, 327680, 0, []⟩,
    ⟨(some 17), .iaddr 1 (.t 16) (.k (.int .i64 0)), none, 327936, 1, []⟩,
    ⟨(some 18), .load 1 false (.t 17), none, 328192, 2, []⟩,
    ⟨(some 19), .call 160 [(.k (.int .i64 0)), (.t 18)] true, none, 328448, 3, []⟩,
    ⟨(some 7), .mv (.t 19), none, 328704, 4, []⟩])
  (.seq (.seq (.reg [⟨(some 8), .mv (.k (.int .i64 0)), none, 393216, 0, []⟩])
  (.block 2 (.loop [1, 2, 5, 6, 7, 8] [0, 1, 2, 3, 4, 5, 256, 65536, 655872, 656128]
   (.seq (.seq (.reg [⟨(some 20), .mv (.t 8), none, 458752, 0, []⟩,
     ⟨(some 21), .faddr 1 (.t 2), none, 459008, 1, []⟩,
     ⟨(some 22), .load 1 false (.t 21), none, 459264, 2, []⟩,
     ⟨(some 23), .bin .lss (.t 20) (.t 22), none, 459520, 3, []⟩])
   (.cond (.t 23)
    (.skip)
    (.exit 2)))
   (.seq (.block 3 (.reg [⟨(some 26), .mv (.t 7), none, 589824, 0, []⟩,
     ⟨(some 27), .faddr 2 (.t 2), none, 590080, 1, []⟩,
     ⟨(some 28), .load 1 false (.t 27), none, 590336, 2, []⟩,
     ⟨(some 29), .mv (.t 6), none, 590592, 3, []⟩,
     ⟨(some 30), .faddr 1 (.t 2), none, 590848, 4, []⟩,
     ⟨(some 31), .load 1 false (.t 30), none, 591104, 5, []⟩,
     ⟨(some 32), .bin .mul (.t 29) (.t 31), none, 591360, 6, []⟩,
     ⟨(some 33), .mv (.t 8), none, 591616, 7, []⟩,
     ⟨(some 34), .bin .add (.t 32) (.t 33), none, 591872, 8, []⟩,
     ⟨(some 35), .iaddr 1 (.t 28) (.t 34), none, 592128, 9, []⟩,
     ⟨(some 36), .load 1 false (.t 35), none, 592384, 10, []⟩,
     ⟨(some 37), .mv (.t 1), none, 592640, 11, []⟩,
     ⟨(some 38), .mv (.t 8), none, 592896, 12, []⟩,
     ⟨(some 39), .iaddr 1 (.t 37) (.t 38), none, 593152, 13, []⟩,
     ⟨(some 40), .load 1 false (.t 39), none, 593408, 14, []⟩,
     ⟨(some 41), .call 160 [(.t 36), (.t 40)] true, none, 593664, 15, []⟩,
     ⟨(some 42), .call 146 [(.t 26), (.t 41)] true, none, 593920, 16, []⟩,
     ⟨(some 7), .mv (.t 42), none, 594176, 17, []⟩]))
   (.reg [⟨(some 24), .mv (.t 8), none, 524288, 0, []⟩,
     ⟨(some 25), .bin .add (.t 24) (.k (.int .i64 1)), none, 524544, 1, []⟩,
     ⟨(some 8), .mv (.t 25), none, 524800, 2, []⟩]))))))
  (.reg [⟨(some 43), .mv (.t 5), none, 655360, 0, []⟩,
    ⟨(some 44), .mv (.t 7), none, 655616, 1, []⟩,
    ⟨(some 45), .bslice true 1 [(.str ByteArray.empty)] 1 [(0, (.t 44))], none, 655872, 2, []⟩,
    ⟨(some 46), .app true 1 16 (.t 43) (.t 45), none, 656128, 3, []⟩,
    ⟨(some 5), .mv (.t 46), none, 656384, 4, []⟩]))))
  (.reg [⟨(some 14), .mv (.t 6), none, 262144, 0, []⟩,
    ⟨(some 15), .bin .add (.t 14) (.k (.int .i64 1)), none, 262400, 1, []⟩,
    ⟨(some 6), .mv (.t 15), none, 262656, 2, []⟩]))))))
 (.seq (.reg [⟨(some 47), .mv (.t 5), none, 720896, 0, []⟩,
   ⟨(some 4), .mv (.t 47), none, 721152, 1, []⟩])
 (.ret))))⟩
/-- loop.example/g00849/spec.l03Code -/
def F133 : F := ⟨2, 40, [.cell 4 3 true],
 .seq (.reg [⟨(some 4), .alloc [(.int .i64 0), (.int .i64 0), (.nil true 1)], none, 0, 0, []⟩])
 (.seq (.reg [⟨(some 8), .mv (.t 0), none, 65536, 0, []⟩,
   ⟨(some 9), .call 161 [(.t 8)] false, none, 65792, 1, []⟩,
   ⟨(some 5), .alloc [(.int .i64 0), (.int .i64 0), (.nil true 1)], none, 66048, 2, []⟩,
   ⟨none, .store 3 (.t 5) (.t 9), none, 66304, 3, []⟩])
 (.seq (.reg [⟨(some 10), .mv (.t 0), none, 131072, 0, []⟩,
   ⟨(some 11), .mv (.t 1), none, 131328, 1, []⟩,
   ⟨(some 12), .bin .add (.t 10) (.t 11), none, 131584, 2, []⟩,
   ⟨(some 13), .faddr 0 (.t 5), none, 131840, 3, []⟩,
   ⟨none, .store 1 (.t 13) (.t 12), none, 132096, 4, []⟩])
 (.seq (.seq (.reg [⟨(some 6), .mv (.k (.int .i64 0)), none, 196608, 0, []⟩])
 (.block 0 (.loop [0, 1, 4, 5, 6] [0, 3, 65792, 65793, 65794, 65795, 66048, 66051, 66305, 66306, 66307, 132097, 655617, 655618, 655619]
  (.seq (.seq (.reg [⟨(some 14), .mv (.t 6), none, 262144, 0, []⟩,
    ⟨(some 15), .mv (.t 1), none, 262400, 1, []⟩,
    ⟨(some 16), .bin .lss (.t 14) (.t 15), none, 262656, 2, []⟩])
  (.cond (.t 16)
   (.skip)
   (.exit 0)))
  (.seq (.block 1 (.seq (.reg [⟨(some 7), .mv (.k (.int .i64 0)), none, 393216, 0, []⟩])
  (.block 2 (.loop [0, 1, 4, 5, 6, 7] [0, 3, 65792, 65793, 65794, 65795, 66048, 66051, 66305, 66306, 66307, 132097, 655617, 655618, 655619]
   (.seq (.seq (.reg [⟨(some 19), .mv (.t 7), none, 458752, 0, []⟩,
     ⟨(some 20), .mv (.t 0), none, 459008, 1, []⟩,
     ⟨(some 21), .bin .lss (.t 19) (.t 20), none, 459264, 2, []⟩])
   (.cond (.t 21)
    (.skip)
    (.exit 2)))
   (.seq (.block 3 (.reg [⟨(some 24), .faddr 2 (.t 5), none, 589824, 0, []⟩,
     ⟨(some 25), .load 1 false (.t 24), none, 590080, 1, []⟩,
     ⟨(some 26), .mv (.t 0), none, 590336, 2, []⟩,
     ⟨(some 27), .mv (.t 6), none, 590592, 3, []⟩,
     ⟨(some 28), .bin .add (.t 26) (.t 27), none, 590848, 4, []⟩,
     ⟨(some 29), .mv (.t 0), none, 591104, 5, []⟩,
     ⟨(some 30), .mv (.t 6), none, 591360, 6, []⟩,
     ⟨(some 31), .bin .add (.t 29) (.t 30), none, 591616, 7, []⟩,
     ⟨(some 32), .mv (.t 7), none, 591872, 8, []⟩,
     ⟨(some 33), .bin .xor (.t 31) (.t 32), none, 592128, 9, []⟩,
     ⟨(some 34), .call 163 [(.t 33)] true, none, 592384, 10, []⟩,
     ⟨(some 35), .call 162 [(.t 28), (.t 34)] true, none, 592640, 11, []⟩,
     ⟨(some 36), .bslice true 1 [(.int .i64 0)] 1 [(0, (.t 35))], none, 592896, 12, []⟩,
     ⟨(some 37), .app true 1 8 (.t 25) (.t 36), none, 593152, 13, []⟩,
     ⟨(some 38), .faddr 2 (.t 5), none, 593408, 14, []⟩,
     ⟨none, .store 1 (.t 38) (.t 37), none, 593664, 15, []⟩]))
   (.reg [⟨(some 22), .mv (.t 7), none, 524288, 0, []⟩,
     ⟨(some 23), .bin .add (.t 22) (.k (.int .i64 1)), none, 524544, 1, []⟩,
     ⟨(some 7), .mv (.t 23), none, 524800, 2, []⟩])))))))
  (.reg [⟨(some 17), .mv (.t 6), none, 327680, 0, []⟩,
    ⟨(some 18), .bin .add (.t 17) (.k (.int .i64 1)), none, 327936, 1, []⟩,
    ⟨(some 6), .mv (.t 18), none, 328192, 2, []⟩]))))))
 (.seq (.reg [⟨(some 39), .load 3 true (.t 5), none, 655360, 0, []⟩,
   ⟨none, .store 3 (.t 4) (.t 39), none, 655616, 1, []⟩])
 (.ret)))))⟩
/-- (*loop.example/g00849/spec.l00Src).pick -/
def F134 : F := ⟨2, 20, [.t 4],
 .seq (.reg [⟨(some 4), .mv (.k (.int .i64 0)), none, 0, 0, []⟩])
 (.seq (.seq (.reg [⟨(some 6), .mv (.t 1), none, 65536, 0, []⟩,
   ⟨(some 7), .bin .leq (.t 6) (.k (.int .i64 1)), none, 65792, 1, []⟩])
 (.cond (.t 7)
  (.seq (.reg [⟨(some 4), .mv (.k (.int .i64 0)), none, 131072, 0, []⟩])
  (.ret))
  (.skip)))
 (.seq (.reg [⟨(some 8), .mv (.t 0), none, 196608, 0, []⟩,
   ⟨(some 9), .call 148 [(.t 8)] true, none, 196864, 1, []⟩,
   ⟨(some 5), .mv (.t 9), none, 197120, 2, []⟩])
 (.seq (.seq (.reg [⟨(some 10), .mv (.t 1), none, 262144, 0, []⟩,
   ⟨(some 11), .bin .gtr (.t 10) (.k (.int .i64 200)), none, 262400, 1, []⟩])
 (.cond (.t 11)
  (.reg [⟨(some 12), .mv (.t 5), none, 327680, 0, []⟩,
    ⟨(some 13), .bin .mul (.t 12) (.k (.int .i64 256)), none, 327936, 1, []⟩,
    ⟨(some 14), .mv (.t 0), none, 328192, 2, []⟩,
    ⟨(some 15), .call 148 [(.t 14)] true, none, 328448, 3, []⟩,
    ⟨(some 16), .bin .add (.t 13) (.t 15), none, 328704, 4, []⟩,
    ⟨(some 5), .mv (.t 16), none, 328960, 5, []⟩])
  (.skip)))
 (.seq (.reg [⟨(some 17), .mv (.t 5), none, 393216, 0, []⟩,
   ⟨(some 18), .mv (.t 1), none, 393472, 1, []⟩,
   ⟨(some 19), .bin .rem (.t 17) (.t 18), none, 393728, 2, []⟩,
   ⟨(some 4), .mv (.t 19), none, 393984, 3, []⟩])
 (.ret)))))⟩
/-- loop.example/g00849/spec.l05Tall -/
def F136 : F := ⟨3, 20, [.t 6],
 .seq (.reg [⟨(some 3), .box (.t 0), none, 0, 0, []⟩,
   ⟨(some 6), .mv (.k (.int .i64 0)), none, 256, 1, []⟩])
 (.seq (.reg [⟨(some 8), .faddr 0 (.t 3), none, 65536, 0, []⟩,
   ⟨(some 9), .load 1 false (.t 8), none, 65792, 1, []⟩,
   ⟨(some 10), .mv (.t 1), none, 66048, 2, []⟩,
   ⟨(some 11), .bin .mul (.t 9) (.t 10), none, 66304, 3, []⟩,
   ⟨(some 7), .mv (.t 11), none, 66560, 4, []⟩])
 (.seq (.reg [⟨(some 12), .mv (.t 2), none, 131072, 0, []⟩,
   ⟨(some 13), .mv (.t 7), none, 131328, 1, []⟩,
   ⟨(some 14), .bin .add (.t 12) (.t 13), none, 131584, 2, []⟩,
   ⟨(some 15), .bin .sub (.t 14) (.k (.int .i64 1)), none, 131840, 3, []⟩,
   ⟨(some 16), .mv (.t 7), none, 132096, 4, []⟩,
   ⟨(some 17), .bin .quo (.t 15) (.t 16), none, 132352, 5, []⟩,
   ⟨(some 18), .mv (.t 1), none, 132608, 6, []⟩,
   ⟨(some 19), .bin .mul (.t 17) (.t 18), none, 132864, 7, []⟩,
   ⟨(some 6), .mv (.t 19), none, 133120, 8, []⟩])
 (.ret)))⟩
/-- slices.IndexFunc[[]string,string] -/
def F138 : F := ⟨2, 19, [.t 4],
 .seq (.reg [⟨(some 4), .mv (.k (.int .i64 0)), none, 0, 0, []⟩])
 (.seq (.seq (.reg [⟨(some 6), .mv (.t 0), none, 65536, 0, []⟩,
   ⟨(some 7), .len false (.t 6), none, 65792, 1, []⟩,
   ⟨(some 8), .mv (.k (.int .i64 0)), none, 66048, 2, []⟩])
 (.block 0 (.loop [0, 1, 7, 8] []
  (.seq (.reg [⟨(some 9), .bin .lss (.t 8) (.t 7), none, 131072, 0, []⟩])
  (.seq (.cond (.t 9)
   (.skip)
   (.exit 0))
  (.seq (.block 1 (.seq (.reg [⟨(some 10), .mv (.t 8), none, 196608, 0, []⟩,
    ⟨(some 5), .mv (.t 10), none, 196864, 1, []⟩])
  (.seq (.reg [⟨(some 11), .mv (.t 1), none, 262144, 0, []⟩,
    ⟨(some 12), .mv (.t 0), none, 262400, 1, []⟩,
    ⟨(some 13), .mv (.t 5), none, 262656, 2, []⟩,
    ⟨(some 14), .iaddr 1 (.t 12) (.t 13), none, 262912, 3, []⟩,
    ⟨(some 15), .load 1 false (.t 14), none, 263168, 4, []⟩,
    ⟨(some 16), .callv (.t 11) [(.t 15)] true, none, 263424, 5, []⟩])
  (.cond (.t 16)
   (.seq (.reg [⟨(some 17), .mv (.t 5), none, 327680, 0, []⟩,
     ⟨(some 4), .mv (.t 17), none, 327936, 1, []⟩])
   (.ret))
   (.skip)))))
  (.reg [⟨(some 18), .bin .add (.t 8) (.k (.int .i64 1)), none, 393216, 0, []⟩,
    ⟨(some 8), .mv (.t 18), none, 393472, 1, []⟩])))))))
 (.seq (.reg [⟨(some 4), .mv (.k (.int .i64 (-1))), none, 458752, 0, []⟩])
 (.ret)))⟩
/-- loop.example/g00849/spec.l05Cells -/
def F144 : F := ⟨4, 140, [.t 8],
 .seq (.reg [⟨(some 4), .box (.t 0), none, 0, 0, []⟩,
   ⟨(some 8), .nil0 true 3, none, 256, 1, []⟩])
 (.seq (.reg [⟨(some 20), .bslice true 3 [(.int .i64 0), (.int .i64 0), (.str ByteArray.empty)] 0 [], none, 65536, 0, []⟩,
   ⟨(some 9), .mv (.t 20), none, 65792, 1, []⟩])
 (.seq (.reg [⟨(some 21), .bslice true 1 [(.str ByteArray.empty)] 0 [], none, 131072, 0, []⟩,
   ⟨(some 10), .mv (.t 21), none, 131328, 1, []⟩])
 (.seq (.seq (.reg [⟨(some 11), .mv (.k (.int .i64 0)), none, 196608, 0, []⟩])
 (.block 0 (.loop [1, 2, 3, 4, 9, 10, 11] [0, 1, 2, 3, 4, 5, 256, 65536, 131072, 1508864, 1508865, 1508866, 1508867, 1509376, 1509377, 1509378, 1509379, 1772288, 1772544]
  (.seq (.seq (.reg [⟨(some 22), .mv (.t 11), none, 262144, 0, []⟩,
    ⟨(some 23), .faddr 0 (.t 4), none, 262400, 1, []⟩,
    ⟨(some 24), .faddr 0 (.t 23), none, 262656, 2, []⟩,
    ⟨(some 25), .load 1 false (.t 24), none, 262912, 3, []⟩,
    ⟨(some 26), .bin .lss (.t 22) (.t 25), none, 263168, 4, []⟩])
  (.cond (.t 26)
   (.skip)
   (.exit 0)))
  (.seq (.block 1 (.seq (.reg [⟨(some 29), .bslice true 1 [(.int .u8 0)] 0 [], none, 393216, 0, []⟩,
    ⟨(some 12), .mv (.t 29), none, 393472, 1, []⟩])
  (.seq (.reg [⟨(some 13), .mv (.k (.int .i64 (-1))), none, 458752, 0, []⟩])
  (.seq (.reg [⟨(some 30), .bslice true 1 [(.int .u8 0)] 0 [], none, 524288, 0, []⟩,
    ⟨(some 14), .mv (.t 30), none, 524544, 1, []⟩])
  (.seq (.seq (.reg [⟨(some 15), .mv (.k (.int .i64 0)), none, 589824, 0, []⟩])
  (.block 2 (.loop [1, 2, 3, 4, 9, 10, 11, 12, 13, 14, 15] [0, 1, 2, 3, 4, 5, 256, 65536, 131072, 393216, 524288, 1311488, 1311744, 1444608, 1444864, 1508864, 1508865, 1508866, 1508867, 1509376, 1509377, 1509378, 1509379, 1772288, 1772544]
   (.seq (.seq (.reg [⟨(some 31), .mv (.t 15), none, 655360, 0, []⟩,
     ⟨(some 32), .faddr 2 (.t 4), none, 655616, 1, []⟩,
     ⟨(some 33), .load 1 false (.t 32), none, 655872, 2, []⟩,
     ⟨(some 34), .bin .lss (.t 31) (.t 33), none, 656128, 3, []⟩])
   (.cond (.t 34)
    (.skip)
    (.exit 2)))
   (.seq (.block 3 (.seq (.reg [⟨(some 37), .mv (.t 1), none, 786432, 0, []⟩,
     ⟨(some 38), .faddr 0 (.t 4), none, 786688, 1, []⟩,
     ⟨(some 39), .faddr 0 (.t 38), none, 786944, 2, []⟩,
     ⟨(some 40), .load 1 false (.t 39), none, 787200, 3, []⟩,
     ⟨(some 41), .bin .mul (.t 37) (.t 40), none, 787456, 4, []⟩,
     ⟨(some 42), .mv (.t 11), none, 787712, 5, []⟩,
     ⟨(some 43), .bin .add (.t 41) (.t 42), none, 787968, 6, []⟩,
     ⟨(some 44), .faddr 2 (.t 4), none, 788224, 7, []⟩,
     ⟨(some 45), .load 1 false (.t 44), none, 788480, 8, []⟩,
     ⟨(some 46), .bin .mul (.t 43) (.t 45), none, 788736, 9, []⟩,
     ⟨(some 47), .mv (.t 15), none, 788992, 10, []⟩,
     ⟨(some 48), .bin .add (.t 46) (.t 47), none, 789248, 11, []⟩,
     ⟨(some 49), .mv (.t 2), none, 789504, 12, []⟩,
     ⟨(some 50), .bin .sub (.t 48) (.t 49), none, 789760, 13, []⟩,
     ⟨(some 16), .mv (.t 50), none, 790016, 14, []⟩])
   (.seq (.reg [⟨(some 17), .mv (.k (.int .u8 0)), none, 851968, 0, []⟩])
   (.seq (.seq (.reg [⟨(some 51), .mv (.t 16), none, 917504, 0, []⟩,
     ⟨(some 52), .mv (.t 3), none, 917760, 1, []⟩,
     ⟨(some 53), .len true (.t 52), none, 918016, 2, []⟩,
     ⟨(some 54), .bin .sub (.t 53) (.k (.int .i64 1)), none, 918272, 3, []⟩,
     ⟨(some 55), .call 77 [(.t 51), (.k (.int .i64 0)), (.t 54)] true, none, 918528, 4, []⟩])
   (.cond (.t 55)
    (.seq (.reg [⟨(some 56), .mv (.t 3), none, 983040, 0, []⟩,
      ⟨(some 57), .mv (.t 16), none, 983296, 1, []⟩,
      ⟨(some 58), .idx (.t 56) (.t 57), none, 983552, 2, []⟩,
      ⟨(some 59), .faddr 4 (.t 4), none, 983808, 3, []⟩,
      ⟨(some 60), .load 1 false (.t 59), none, 984064, 4, []⟩,
      ⟨(some 61), .mv (.t 11), none, 984320, 5, []⟩,
      ⟨(some 62), .iaddr 1 (.t 60) (.t 61), none, 984576, 6, []⟩,
      ⟨(some 63), .load 1 false (.t 62), none, 984832, 7, []⟩,
      ⟨(some 64), .mv (.t 1), none, 985088, 8, []⟩,
      ⟨(some 65), .faddr 2 (.t 4), none, 985344, 9, []⟩,
      ⟨(some 66), .load 1 false (.t 65), none, 985600, 10, []⟩,
      ⟨(some 67), .bin .mul (.t 64) (.t 66), none, 985856, 11, []⟩,
      ⟨(some 68), .mv (.t 15), none, 986112, 12, []⟩,
      ⟨(some 69), .bin .add (.t 67) (.t 68), none, 986368, 13, []⟩,
      ⟨(some 70), .idx (.t 63) (.t 69), none, 986624, 14, []⟩,
      ⟨(some 71), .bin .xor (.t 58) (.t 70), none, 986880, 15, []⟩,
      ⟨(some 17), .mv (.t 71), none, 987136, 16, []⟩])
    (.seq (.reg [⟨(some 72), .mv (.t 14), none, 1048576, 0, []⟩,
      ⟨(some 73), .mv (.t 17), none, 1048832, 1, []⟩,
      ⟨(some 74), .bslice true 1 [(.int .u8 0)] 1 [(0, (.t 73))], none, 1049088, 2, []⟩,
      ⟨(some 75), .app true 1 1 (.t 72) (.t 74), none, 1049344, 3, []⟩,
      ⟨(some 14), .mv (.t 75), none, 1049600, 4, []⟩])
    (.seq (.reg [⟨(some 76), .mv (.t 13), none, 1114112, 0, []⟩,
      ⟨(some 77), .bin .lss (.t 76) (.k (.int .i64 0)), none, 1114368, 1, []⟩])
    (.cond (.t 77)
     (.reg [⟨(some 78), .mv (.t 15), none, 1179648, 0, []⟩,
       ⟨(some 13), .mv (.t 78), none, 1179904, 1, []⟩])
     (.skip)))))
    (.skip)))
   (.reg [⟨(some 79), .mv (.t 12), none, 1245184, 0, []⟩,
     ⟨(some 80), .mv (.t 17), none, 1245440, 1, []⟩,
     ⟨(some 81), .bslice true 1 [(.int .u8 0)] 1 [(0, (.t 80))], none, 1245696, 2, []⟩,
     ⟨(some 82), .app true 1 1 (.t 79) (.t 81), none, 1245952, 3, []⟩,
     ⟨(some 12), .mv (.t 82), none, 1246208, 4, []⟩])))))
   (.reg [⟨(some 35), .mv (.t 15), none, 720896, 0, []⟩,
     ⟨(some 36), .bin .add (.t 35) (.k (.int .i64 1)), none, 721152, 1, []⟩,
     ⟨(some 15), .mv (.t 36), none, 721408, 2, []⟩]))))))
  (.seq (.reg [⟨(some 83), .mv (.t 10), none, 1310720, 0, []⟩,
    ⟨(some 84), .mv (.t 12), none, 1310976, 1, []⟩,
    ⟨(some 85), .b2s (.t 84), none, 1311232, 2, []⟩,
    ⟨(some 86), .bslice true 1 [(.str ByteArray.empty)] 1 [(0, (.t 85))], none, 1311488, 3, []⟩,
    ⟨(some 87), .app true 1 16 (.t 83) (.t 86), none, 1311744, 4, []⟩,
    ⟨(some 10), .mv (.t 87), none, 1312000, 5, []⟩])
  (.seq (.reg [⟨(some 88), .mv (.t 13), none, 1376256, 0, []⟩,
    ⟨(some 89), .bin .geq (.t 88) (.k (.int .i64 0)), none, 1376512, 1, []⟩])
  (.cond (.t 89)
   (.reg [⟨(some 90), .mv (.t 9), none, 1441792, 0, []⟩,
     ⟨(some 91), .mv (.t 11), none, 1442048, 1, []⟩,
     ⟨(some 92), .mv (.t 1), none, 1442304, 2, []⟩,
     ⟨(some 93), .faddr 2 (.t 4), none, 1442560, 3, []⟩,
     ⟨(some 94), .load 1 false (.t 93), none, 1442816, 4, []⟩,
     ⟨(some 95), .bin .mul (.t 92) (.t 94), none, 1443072, 5, []⟩,
     ⟨(some 96), .mv (.t 13), none, 1443328, 6, []⟩,
     ⟨(some 97), .bin .add (.t 95) (.t 96), none, 1443584, 7, []⟩,
     ⟨(some 98), .mv (.t 14), none, 1443840, 8, []⟩,
     ⟨(some 99), .b2s (.t 98), none, 1444096, 9, []⟩,
     ⟨(some 100), .build [(.int .i64 0), (.int .i64 0), (.str ByteArray.empty)] [(0, 1, (.t 91)), (1, 1, (.t 97)), (2, 1, (.t 99))], none, 1444352, 10, []⟩,
     ⟨(some 101), .bslice true 3 [(.int .i64 0), (.int .i64 0), (.str ByteArray.empty)] 1 [(0, (.t 100))], none, 1444608, 11, []⟩,
     ⟨(some 102), .app true 3 32 (.t 90) (.t 101), none, 1444864, 12, []⟩,
     ⟨(some 9), .mv (.t 102), none, 1445120, 13, []⟩])
   (.skip)))))))))
  (.reg [⟨(some 27), .mv (.t 11), none, 327680, 0, []⟩,
    ⟨(some 28), .bin .add (.t 27) (.k (.int .i64 1)), none, 327936, 1, []⟩,
    ⟨(some 11), .mv (.t 28), none, 328192, 2, []⟩]))))))
 (.seq (.reg [⟨(some 103), .faddr 0 (.t 4), none, 1507328, 0, []⟩,
   ⟨(some 104), .faddr 0 (.t 103), none, 1507584, 1, []⟩,
   ⟨(some 105), .load 1 false (.t 104), none, 1507840, 2, []⟩,
   ⟨(some 106), .faddr 0 (.t 4), none, 1508096, 3, []⟩,
   ⟨(some 107), .faddr 1 (.t 106), none, 1508352, 4, []⟩,
   ⟨(some 108), .load 1 false (.t 107), none, 1508608, 5, []⟩,
   ⟨(some 109), .call 133 [(.t 105), (.t 108)] false, none, 1508864, 6, []⟩,
   ⟨(some 110), .mv (.t 10), none, 1509120, 7, []⟩,
   ⟨(some 111), .call 132 [(.t 109), (.t 110)] false, none, 1509376, 8, []⟩,
   ⟨(some 18), .mv (.t 111), none, 1509632, 9, []⟩])
 (.seq (.seq (.reg [⟨(some 112), .faddr 0 (.t 4), none, 1572864, 0, []⟩,
   ⟨(some 113), .faddr 0 (.t 112), none, 1573120, 1, []⟩,
   ⟨(some 114), .load 1 false (.t 113), none, 1573376, 2, []⟩,
   ⟨(some 19), .mv (.t 114), none, 1573632, 3, []⟩])
 (.block 4 (.loop [1, 4, 9, 18, 19] [0, 1, 2, 3, 4, 5, 256, 65536, 131072, 393216, 524288, 1049088, 1049344, 1245696, 1245952, 1311488, 1311744, 1444608, 1444864, 1508864, 1508865, 1508866, 1508867, 1509376, 1509377, 1509378, 1509379]
  (.seq (.seq (.reg [⟨(some 115), .mv (.t 19), none, 1638400, 0, []⟩,
    ⟨(some 116), .faddr 0 (.t 4), none, 1638656, 1, []⟩,
    ⟨(some 117), .faddr 0 (.t 116), none, 1638912, 2, []⟩,
    ⟨(some 118), .load 1 false (.t 117), none, 1639168, 3, []⟩,
    ⟨(some 119), .faddr 0 (.t 4), none, 1639424, 4, []⟩,
    ⟨(some 120), .faddr 1 (.t 119), none, 1639680, 5, []⟩,
    ⟨(some 121), .load 1 false (.t 120), none, 1639936, 6, []⟩,
    ⟨(some 122), .bin .add (.t 118) (.t 121), none, 1640192, 7, []⟩,
    ⟨(some 123), .bin .lss (.t 115) (.t 122), none, 1640448, 8, []⟩])
  (.cond (.t 123)
   (.skip)
   (.exit 4)))
  (.seq (.block 5 (.reg [⟨(some 126), .mv (.t 9), none, 1769472, 0, []⟩,
    ⟨(some 127), .mv (.t 19), none, 1769728, 1, []⟩,
    ⟨(some 128), .mv (.t 1), none, 1769984, 2, []⟩,
    ⟨(some 129), .faddr 2 (.t 4), none, 1770240, 3, []⟩,
    ⟨(some 130), .load 1 false (.t 129), none, 1770496, 4, []⟩,
    ⟨(some 131), .bin .mul (.t 128) (.t 130), none, 1770752, 5, []⟩,
    ⟨(some 132), .mv (.t 18), none, 1771008, 6, []⟩,
    ⟨(some 133), .mv (.t 19), none, 1771264, 7, []⟩,
    ⟨(some 134), .iaddr 1 (.t 132) (.t 133), none, 1771520, 8, []⟩,
    ⟨(some 135), .load 1 false (.t 134), none, 1771776, 9, []⟩,
    ⟨(some 136), .build [(.int .i64 0), (.int .i64 0), (.str ByteArray.empty)] [(0, 1, (.t 127)), (1, 1, (.t 131)), (2, 1, (.t 135))], none, 1772032, 10, []⟩,
    ⟨(some 137), .bslice true 3 [(.int .i64 0), (.int .i64 0), (.str ByteArray.empty)] 1 [(0, (.t 136))], none, 1772288, 11, []⟩,
    ⟨(some 138), .app true 3 32 (.t 126) (.t 137), none, 1772544, 12, []⟩,
    ⟨(some 9), .mv (.t 138), none, 1772800, 13, []⟩]))
  (.reg [⟨(some 124), .mv (.t 19), none, 1703936, 0, []⟩,
    ⟨(some 125), .bin .add (.t 124) (.k (.int .i64 1)), none, 1704192, 1, []⟩,
    ⟨(some 19), .mv (.t 125), none, 1704448, 2, []⟩]))))))
 (.seq (.reg [⟨(some 139), .mv (.t 9), none, 1835008, 0, []⟩,
   ⟨(some 8), .mv (.t 139), none, 1835264, 1, []⟩])
 (.ret)))))))⟩
/-- loop.example/g00849/spec.l02Sum -/
def F146 : F := ⟨2, 26, [.t 4],
 .seq (.reg [⟨(some 4), .mv (.k (.str ByteArray.empty)), none, 0, 0, []⟩])
 (.seq (.reg [⟨(some 7), .bslice true 1 [(.int .u8 0)] 0 [], none, 65536, 0, []⟩,
   ⟨(some 5), .mv (.t 7), none, 65792, 1, []⟩])
 (.seq (.seq (.reg [⟨(some 6), .mv (.k (.int .i64 0)), none, 131072, 0, []⟩])
 (.block 0 (.loop [0, 1, 5, 6] [65536]
  (.seq (.seq (.reg [⟨(some 8), .mv (.t 6), none, 196608, 0, []⟩,
    ⟨(some 9), .mv (.t 0), none, 196864, 1, []⟩,
    ⟨(some 10), .len true (.t 9), none, 197120, 2, []⟩,
    ⟨(some 11), .bin .lss (.t 8) (.t 10), none, 197376, 3, []⟩])
  (.cond (.t 11)
   (.skip)
   (.exit 0)))
  (.seq (.block 1 (.reg [⟨(some 14), .mv (.t 5), none, 327680, 0, []⟩,
    ⟨(some 15), .mv (.t 0), none, 327936, 1, []⟩,
    ⟨(some 16), .mv (.t 6), none, 328192, 2, []⟩,
    ⟨(some 17), .idx (.t 15) (.t 16), none, 328448, 3, []⟩,
    ⟨(some 18), .mv (.t 1), none, 328704, 4, []⟩,
    ⟨(some 19), .mv (.t 6), none, 328960, 5, []⟩,
    ⟨(some 20), .idx (.t 18) (.t 19), none, 329216, 6, []⟩,
    ⟨(some 21), .bin .xor (.t 17) (.t 20), none, 329472, 7, []⟩,
    ⟨(some 22), .bslice true 1 [(.int .u8 0)] 1 [(0, (.t 21))], none, 329728, 8, []⟩,
    ⟨(some 23), .app true 1 1 (.t 14) (.t 22), none, 329984, 9, []⟩,
    ⟨(some 5), .mv (.t 23), none, 330240, 10, []⟩]))
  (.reg [⟨(some 12), .mv (.t 6), none, 262144, 0, []⟩,
    ⟨(some 13), .bin .add (.t 12) (.k (.int .i64 1)), none, 262400, 1, []⟩,
    ⟨(some 6), .mv (.t 13), none, 262656, 2, []⟩]))))))
 (.seq (.reg [⟨(some 24), .mv (.t 5), none, 393216, 0, []⟩,
   ⟨(some 25), .b2s (.t 24), none, 393472, 1, []⟩,
   ⟨(some 4), .mv (.t 25), none, 393728, 2, []⟩])
 (.ret))))⟩
/-- loop.example/g00849/impl.summed -/
def F147 : F := ⟨2, 28, [.t 4],
 .seq (.reg [⟨(some 4), .mv (.k (.str ByteArray.empty)), none, 0, 0, []⟩])
 (.seq (.reg [⟨(some 7), .mv (.t 0), none, 65536, 0, []⟩,
   ⟨(some 8), .len true (.t 7), none, 65792, 1, []⟩,
   ⟨(some 9), .mksl true 1 1 [(.int .u8 0)] (.t 8) (.t 8), none, 66048, 2, []⟩,
   ⟨(some 5), .mv (.t 9), none, 66304, 3, []⟩])
 (.seq (.seq (.reg [⟨(some 10), .mv (.t 5), none, 131072, 0, []⟩,
   ⟨(some 11), .len false (.t 10), none, 131328, 1, []⟩,
   ⟨(some 12), .mv (.k (.int .i64 0)), none, 131584, 2, []⟩])
 (.block 0 (.loop [0, 1, 5, 11, 12] [66048]
  (.seq (.reg [⟨(some 13), .bin .lss (.t 12) (.t 11), none, 196608, 0, []⟩])
  (.seq (.cond (.t 13)
   (.skip)
   (.exit 0))
  (.seq (.block 1 (.seq (.reg [⟨(some 14), .mv (.t 12), none, 262144, 0, []⟩,
    ⟨(some 6), .mv (.t 14), none, 262400, 1, []⟩])
  (.reg [⟨(some 15), .mv (.t 5), none, 327680, 0, []⟩,
    ⟨(some 16), .mv (.t 6), none, 327936, 1, []⟩,
    ⟨(some 17), .mv (.t 0), none, 328192, 2, []⟩,
    ⟨(some 18), .mv (.t 6), none, 328448, 3, []⟩,
    ⟨(some 19), .idx (.t 17) (.t 18), none, 328704, 4, []⟩,
    ⟨(some 20), .mv (.t 1), none, 328960, 5, []⟩,
    ⟨(some 21), .mv (.t 6), none, 329216, 6, []⟩,
    ⟨(some 22), .idx (.t 20) (.t 21), none, 329472, 7, []⟩,
    ⟨(some 23), .bin .xor (.t 19) (.t 22), none, 329728, 8, []⟩,
    ⟨(some 24), .iaddr 1 (.t 15) (.t 16), none, 329984, 9, []⟩,
    ⟨none, .store 1 (.t 24) (.t 23), none, 330240, 10, []⟩])))
  (.reg [⟨(some 25), .bin .add (.t 12) (.k (.int .i64 1)), none, 393216, 0, []⟩,
    ⟨(some 12), .mv (.t 25), none, 393472, 1, []⟩])))))))
 (.seq (.reg [⟨(some 26), .mv (.t 5), none, 458752, 0, []⟩,
   ⟨(some 27), .b2s (.t 26), none, 459008, 1, []⟩,
   ⟨(some 4), .mv (.t 27), none, 459264, 2, []⟩])
 (.ret))))⟩
/-- (*loop.example/g00849/spec.l00Src).next -/
def F148 : F := ⟨1, 62, [.t 2],
 .seq (.reg [⟨(some 2), .mv (.k (.int .i64 0)), none, 0, 0, []⟩])
 (.seq (.reg [⟨(some 3), .mv (.k (.int .i64 0)), none, 65536, 0, []⟩])
 (.seq (.seq (.reg [⟨(some 4), .mv (.t 0), none, 131072, 0, []⟩,
   ⟨(some 5), .nilck (.t 4), none, 131328, 1, []⟩,
   ⟨(some 6), .faddr 1 (.t 5), none, 131584, 2, []⟩,
   ⟨(some 7), .load 1 false (.t 6), none, 131840, 3, []⟩,
   ⟨(some 8), .mv (.t 0), none, 132096, 4, []⟩,
   ⟨(some 9), .nilck (.t 8), none, 132352, 5, []⟩,
   ⟨(some 10), .faddr 0 (.t 9), none, 132608, 6, []⟩,
   ⟨(some 11), .load 1 false (.t 10), none, 132864, 7, []⟩,
   ⟨(some 12), .len false (.t 11), none, 133120, 8, []⟩,
   ⟨(some 13), .bin .lss (.t 7) (.t 12), none, 133376, 9, []⟩])
 (.cond (.t 13)
  (.reg [⟨(some 14), .mv (.t 0), none, 196608, 0, []⟩,
    ⟨(some 15), .nilck (.t 14), none, 196864, 1, []⟩,
    ⟨(some 16), .faddr 0 (.t 15), none, 197120, 2, []⟩,
    ⟨(some 17), .load 1 false (.t 16), none, 197376, 3, []⟩,
    ⟨(some 18), .mv (.t 0), none, 197632, 4, []⟩,
    ⟨(some 19), .nilck (.t 18), none, 197888, 5, []⟩,
    ⟨(some 20), .faddr 1 (.t 19), none, 198144, 6, []⟩,
    ⟨(some 21), .load 1 false (.t 20), none, 198400, 7, []⟩,
    ⟨(some 22), .iaddr 1 (.t 17) (.t 21), none, 198656, 8, []⟩,
    ⟨(some 23), .load 1 false (.t 22), none, 198912, 9, []⟩,
    ⟨(some 24), .conv .i64 (.t 23), none, 199168, 10, []⟩,
    ⟨(some 3), .mv (.t 24), none, 199424, 11, []⟩])
  (.skip)))
 (.seq (.reg [⟨(some 25), .mv (.t 0), none, 262144, 0, []⟩,
   ⟨(some 26), .nilck (.t 25), none, 262400, 1, []⟩,
   ⟨(some 27), .faddr 1 (.t 26), none, 262656, 2, []⟩,
   ⟨(some 28), .load 1 false (.t 27), none, 262912, 3, []⟩,
   ⟨(some 29), .bin .add (.t 28) (.k (.int .i64 1)), none, 263168, 4, []⟩,
   ⟨(some 30), .nilck (.t 25), none, 263424, 5, []⟩,
   ⟨(some 31), .faddr 1 (.t 30), none, 263680, 6, []⟩,
   ⟨none, .store 1 (.t 31) (.t 29), none, 263936, 7, []⟩])
 (.seq (.reg [⟨(some 32), .mv (.t 0), none, 327680, 0, []⟩,
   ⟨(some 33), .mv (.t 0), none, 327936, 1, []⟩,
   ⟨(some 34), .nilck (.t 33), none, 328192, 2, []⟩,
   ⟨(some 35), .faddr 2 (.t 34), none, 328448, 3, []⟩,
   ⟨(some 36), .load 1 false (.t 35), none, 328704, 4, []⟩,
   ⟨(some 37), .bin .mul (.t 36) (.k (.int .u64 6364136223846793005)), none, 328960, 5, []⟩,
   ⟨(some 38), .mv (.t 3), none, 329216, 6, []⟩,
   ⟨(some 39), .conv .u64 (.t 38), none, 329472, 7, []⟩,
   ⟨(some 40), .bin .add (.t 37) (.t 39), none, 329728, 8, []⟩,
   ⟨(some 41), .bin .add (.t 40) (.k (.int .u64 1442695040888963407)), none, 329984, 9, []⟩,
   ⟨(some 42), .nilck (.t 32), none, 330240, 10, []⟩,
   ⟨(some 43), .faddr 2 (.t 42), none, 330496, 11, []⟩,
   ⟨none, .store 1 (.t 43) (.t 41), none, 330752, 12, []⟩])
 (.seq (.seq (.reg [⟨(some 44), .mv (.t 0), none, 393216, 0, []⟩,
   ⟨(some 45), .nilck (.t 44), none, 393472, 1, []⟩,
   ⟨(some 46), .faddr 1 (.t 45), none, 393728, 2, []⟩,
   ⟨(some 47), .load 1 false (.t 46), none, 393984, 3, []⟩,
   ⟨(some 48), .mv (.t 0), none, 394240, 4, []⟩,
   ⟨(some 49), .nilck (.t 48), none, 394496, 5, []⟩,
   ⟨(some 50), .faddr 0 (.t 49), none, 394752, 6, []⟩,
   ⟨(some 51), .load 1 false (.t 50), none, 395008, 7, []⟩,
   ⟨(some 52), .len false (.t 51), none, 395264, 8, []⟩,
   ⟨(some 53), .bin .leq (.t 47) (.t 52), none, 395520, 9, []⟩])
 (.cond (.t 53)
  (.seq (.reg [⟨(some 54), .mv (.t 3), none, 458752, 0, []⟩,
    ⟨(some 2), .mv (.t 54), none, 459008, 1, []⟩])
  (.ret))
  (.skip)))
 (.seq (.reg [⟨(some 55), .mv (.t 0), none, 524288, 0, []⟩,
   ⟨(some 56), .nilck (.t 55), none, 524544, 1, []⟩,
   ⟨(some 57), .faddr 2 (.t 56), none, 524800, 2, []⟩,
   ⟨(some 58), .load 1 false (.t 57), none, 525056, 3, []⟩,
   ⟨(some 59), .bin .shr (.t 58) (.k (.int .u64 40)), none, 525312, 4, []⟩,
   ⟨(some 60), .bin .and (.t 59) (.k (.int .u64 255)), none, 525568, 5, []⟩,
   ⟨(some 61), .conv .i64 (.t 60), none, 525824, 6, []⟩,
   ⟨(some 2), .mv (.t 61), none, 526080, 7, []⟩])
 (.ret)))))))⟩
/-- loop.example/g00849/impl.unit -/
def F154 : F := ⟨1, 23, [.cell 2 3 true],
 .seq (.reg [⟨(some 2), .alloc [(.int .i64 0), (.int .i64 0), (.nil true 1)], none, 0, 0, []⟩])
 (.seq (.reg [⟨(some 5), .mv (.t 0), none, 65536, 0, []⟩,
   ⟨(some 6), .mv (.t 0), none, 65792, 1, []⟩,
   ⟨(some 7), .mv (.t 0), none, 66048, 2, []⟩,
   ⟨(some 8), .mv (.t 0), none, 66304, 3, []⟩,
   ⟨(some 9), .bin .mul (.t 7) (.t 8), none, 66560, 4, []⟩,
   ⟨(some 10), .mksl true 1 8 [(.int .i64 0)] (.t 9) (.t 9), none, 66816, 5, []⟩,
   ⟨(some 11), .build [(.int .i64 0), (.int .i64 0), (.nil true 1)] [(0, 1, (.t 5)), (1, 1, (.t 6)), (2, 1, (.t 10))], none, 67072, 6, []⟩,
   ⟨(some 3), .alloc [(.int .i64 0), (.int .i64 0), (.nil true 1)], none, 67328, 7, []⟩,
   ⟨none, .store 3 (.t 3) (.t 11), none, 67584, 8, []⟩])
 (.seq (.seq (.reg [⟨(some 12), .mv (.t 0), none, 131072, 0, []⟩,
   ⟨(some 13), .mv (.k (.int .i64 0)), none, 131328, 1, []⟩])
 (.block 0 (.loop [2, 3, 12, 13] [0, 3, 66816, 67328, 67331, 67585, 67586, 67587, 459009, 459010, 459011]
  (.seq (.reg [⟨(some 14), .bin .lss (.t 13) (.t 12), none, 196608, 0, []⟩])
  (.seq (.cond (.t 14)
   (.skip)
   (.exit 0))
  (.seq (.block 1 (.seq (.reg [⟨(some 15), .mv (.t 13), none, 262144, 0, []⟩,
    ⟨(some 4), .mv (.t 15), none, 262400, 1, []⟩])
  (.reg [⟨(some 16), .load 3 true (.t 3), none, 327680, 0, []⟩,
    ⟨(some 17), .mv (.t 4), none, 327936, 1, []⟩,
    ⟨(some 18), .call 155 [(.t 16), (.t 17)] false, none, 328192, 2, []⟩,
    ⟨(some 19), .mv (.t 4), none, 328448, 3, []⟩,
    ⟨(some 20), .iaddr 1 (.t 18) (.t 19), none, 328704, 4, []⟩,
    ⟨none, .store 1 (.t 20) (.k (.int .i64 1)), none, 328960, 5, []⟩])))
  (.reg [⟨(some 21), .bin .add (.t 13) (.k (.int .i64 1)), none, 393216, 0, []⟩,
    ⟨(some 13), .mv (.t 21), none, 393472, 1, []⟩])))))))
 (.seq (.reg [⟨(some 22), .load 3 true (.t 3), none, 458752, 0, []⟩,
   ⟨none, .store 3 (.t 2) (.t 22), none, 459008, 1, []⟩])
 (.ret))))⟩
/-- (loop.example/g00849/impl.Matrix).row -/
def F155 : F := ⟨2, 17, [.t 4],
 .seq (.reg [⟨(some 2), .box (.t 0), none, 0, 0, []⟩,
   ⟨(some 4), .nil0 true 1, none, 256, 1, []⟩])
 (.seq (.reg [⟨(some 5), .faddr 2 (.t 2), none, 65536, 0, []⟩,
   ⟨(some 6), .load 1 false (.t 5), none, 65792, 1, []⟩,
   ⟨(some 7), .mv (.t 1), none, 66048, 2, []⟩,
   ⟨(some 8), .faddr 1 (.t 2), none, 66304, 3, []⟩,
   ⟨(some 9), .load 1 false (.t 8), none, 66560, 4, []⟩,
   ⟨(some 10), .bin .mul (.t 7) (.t 9), none, 66816, 5, []⟩,
   ⟨(some 11), .mv (.t 1), none, 67072, 6, []⟩,
   ⟨(some 12), .bin .add (.t 11) (.k (.int .i64 1)), none, 67328, 7, []⟩,
   ⟨(some 13), .faddr 1 (.t 2), none, 67584, 8, []⟩,
   ⟨(some 14), .load 1 false (.t 13), none, 67840, 9, []⟩,
   ⟨(some 15), .bin .mul (.t 12) (.t 14), none, 68096, 10, []⟩,
   ⟨(some 16), .cut 1 (.t 6) (some (.t 10)) (some (.t 15)), none, 68352, 11, []⟩,
   ⟨(some 4), .mv (.t 16), none, 68608, 12, []⟩])
 (.ret))⟩
/-- loop.example/g00849/impl.inverse -/
def F157 : F := ⟨1, 5, [.t 2],
 .seq (.reg [⟨(some 2), .mv (.k (.int .i64 0)), none, 0, 0, []⟩])
 (.seq (.reg [⟨(some 3), .mv (.t 0), none, 65536, 0, []⟩,
   ⟨(some 4), .call 173 [(.t 3), (.k (.int .i64 254))] true, none, 65792, 1, []⟩,
   ⟨(some 2), .mv (.t 4), none, 66048, 2, []⟩])
 (.ret))⟩
/-- loop.example/g00849/impl.times -/
def F158 : F := ⟨2, 19, [.t 4],
 .seq (.reg [⟨(some 4), .mv (.k (.int .i64 0)), none, 0, 0, []⟩])
 (.seq (.reg [⟨(some 5), .mv (.k (.int .i64 0)), none, 65536, 0, []⟩])
 (.seq (.block 0 (.loop [0, 1, 5] []
  (.seq (.seq (.reg [⟨(some 6), .mv (.t 1), none, 131072, 0, []⟩,
    ⟨(some 7), .bin .gtr (.t 6) (.k (.int .i64 0)), none, 131328, 1, []⟩])
  (.cond (.t 7)
   (.skip)
   (.exit 0)))
  (.seq (.block 1 (.seq (.seq (.reg [⟨(some 10), .mv (.t 1), none, 262144, 0, []⟩,
    ⟨(some 11), .bin .rem (.t 10) (.k (.int .i64 2)), none, 262400, 1, []⟩,
    ⟨(some 12), .bin .eql (.t 11) (.k (.int .i64 1)), none, 262656, 2, []⟩])
  (.cond (.t 12)
   (.reg [⟨(some 13), .mv (.t 5), none, 327680, 0, []⟩,
     ⟨(some 14), .mv (.t 0), none, 327936, 1, []⟩,
     ⟨(some 15), .bin .xor (.t 13) (.t 14), none, 328192, 2, []⟩,
     ⟨(some 5), .mv (.t 15), none, 328448, 3, []⟩])
   (.skip)))
  (.reg [⟨(some 16), .mv (.t 0), none, 393216, 0, []⟩,
    ⟨(some 17), .call 174 [(.t 16)] true, none, 393472, 1, []⟩,
    ⟨(some 0), .mv (.t 17), none, 393728, 2, []⟩])))
  (.reg [⟨(some 8), .mv (.t 1), none, 196608, 0, []⟩,
    ⟨(some 9), .bin .quo (.t 8) (.k (.int .i64 2)), none, 196864, 1, []⟩,
    ⟨(some 1), .mv (.t 9), none, 197120, 2, []⟩])))))
 (.seq (.reg [⟨(some 18), .mv (.t 5), none, 458752, 0, []⟩,
   ⟨(some 4), .mv (.t 18), none, 459008, 1, []⟩])
 (.ret))))⟩
/-- loop.example/g00849/impl.scaled -/
def F159 : F := ⟨2, 28, [.t 4],
 .seq (.reg [⟨(some 4), .mv (.k (.str ByteArray.empty)), none, 0, 0, []⟩])
 (.seq (.reg [⟨(some 7), .mv (.t 1), none, 65536, 0, []⟩,
   ⟨(some 8), .len true (.t 7), none, 65792, 1, []⟩,
   ⟨(some 9), .mksl true 1 1 [(.int .u8 0)] (.t 8) (.t 8), none, 66048, 2, []⟩,
   ⟨(some 5), .mv (.t 9), none, 66304, 3, []⟩])
 (.seq (.seq (.reg [⟨(some 10), .mv (.t 5), none, 131072, 0, []⟩,
   ⟨(some 11), .len false (.t 10), none, 131328, 1, []⟩,
   ⟨(some 12), .mv (.k (.int .i64 0)), none, 131584, 2, []⟩])
 (.block 0 (.loop [0, 1, 5, 11, 12] [66048]
  (.seq (.reg [⟨(some 13), .bin .lss (.t 12) (.t 11), none, 196608, 0, []⟩])
  (.seq (.cond (.t 13)
   (.skip)
   (.exit 0))
  (.seq (.block 1 (.seq (.reg [⟨(some 14), .mv (.t 12), none, 262144, 0, []⟩,
    ⟨(some 6), .mv (.t 14), none, 262400, 1, []⟩])
  (.reg [⟨(some 15), .mv (.t 5), none, 327680, 0, []⟩,
    ⟨(some 16), .mv (.t 6), none, 327936, 1, []⟩,
    ⟨(some 17), .mv (.t 0), none, 328192, 2, []⟩,
    ⟨(some 18), .mv (.t 1), none, 328448, 3, []⟩,
    ⟨(some 19), .mv (.t 6), none, 328704, 4, []⟩,
    ⟨(some 20), .idx (.t 18) (.t 19), none, 328960, 5, []⟩,
    ⟨(some 21), .conv .i64 (.t 20), none, 329216, 6, []⟩,
    ⟨(some 22), .call 158 [(.t 17), (.t 21)] true, none, 329472, 7, []⟩,
    ⟨(some 23), .conv .u8 (.t 22), none, 329728, 8, []⟩,
    ⟨(some 24), .iaddr 1 (.t 15) (.t 16), none, 329984, 9, []⟩,
    ⟨none, .store 1 (.t 24) (.t 23), none, 330240, 10, []⟩])))
  (.reg [⟨(some 25), .bin .add (.t 12) (.k (.int .i64 1)), none, 393216, 0, []⟩,
    ⟨(some 12), .mv (.t 25), none, 393472, 1, []⟩])))))))
 (.seq (.reg [⟨(some 26), .mv (.t 5), none, 458752, 0, []⟩,
   ⟨(some 27), .b2s (.t 26), none, 459008, 1, []⟩,
   ⟨(some 4), .mv (.t 27), none, 459264, 2, []⟩])
 (.ret))))⟩
/-- loop.example/g00849/spec.l02Scale -/
def F160 : F := ⟨2, 26, [.t 4],
 .seq (.reg [⟨(some 4), .mv (.k (.str ByteArray.empty)), none, 0, 0, []⟩])
 (.seq (.reg [⟨(some 7), .bslice true 1 [(.int .u8 0)] 0 [], none, 65536, 0, []⟩,
   ⟨(some 5), .mv (.t 7), none, 65792, 1, []⟩])
 (.seq (.seq (.reg [⟨(some 6), .mv (.k (.int .i64 0)), none, 131072, 0, []⟩])
 (.block 0 (.loop [0, 1, 5, 6] [65536]
  (.seq (.seq (.reg [⟨(some 8), .mv (.t 6), none, 196608, 0, []⟩,
    ⟨(some 9), .mv (.t 1), none, 196864, 1, []⟩,
    ⟨(some 10), .len true (.t 9), none, 197120, 2, []⟩,
    ⟨(some 11), .bin .lss (.t 8) (.t 10), none, 197376, 3, []⟩])
  (.cond (.t 11)
   (.skip)
   (.exit 0)))
  (.seq (.block 1 (.reg [⟨(some 14), .mv (.t 5), none, 327680, 0, []⟩,
    ⟨(some 15), .mv (.t 0), none, 327936, 1, []⟩,
    ⟨(some 16), .mv (.t 1), none, 328192, 2, []⟩,
    ⟨(some 17), .mv (.t 6), none, 328448, 3, []⟩,
    ⟨(some 18), .idx (.t 16) (.t 17), none, 328704, 4, []⟩,
    ⟨(some 19), .conv .i64 (.t 18), none, 328960, 5, []⟩,
    ⟨(some 20), .call 162 [(.t 15), (.t 19)] true, none, 329216, 6, []⟩,
    ⟨(some 21), .conv .u8 (.t 20), none, 329472, 7, []⟩,
    ⟨(some 22), .bslice true 1 [(.int .u8 0)] 1 [(0, (.t 21))], none, 329728, 8, []⟩,
    ⟨(some 23), .app true 1 1 (.t 14) (.t 22), none, 329984, 9, []⟩,
    ⟨(some 5), .mv (.t 23), none, 330240, 10, []⟩]))
  (.reg [⟨(some 12), .mv (.t 6), none, 262144, 0, []⟩,
    ⟨(some 13), .bin .add (.t 12) (.k (.int .i64 1)), none, 262400, 1, []⟩,
    ⟨(some 6), .mv (.t 13), none, 262656, 2, []⟩]))))))
 (.seq (.reg [⟨(some 24), .mv (.t 5), none, 393216, 0, []⟩,
   ⟨(some 25), .b2s (.t 24), none, 393472, 1, []⟩,
   ⟨(some 4), .mv (.t 25), none, 393728, 2, []⟩])
 (.ret))))⟩
/-- loop.example/g00849/spec.l03Unit -/
def F161 : F := ⟨1, 31, [.cell 2 3 true],
 .seq (.reg [⟨(some 2), .alloc [(.int .i64 0), (.int .i64 0), (.nil true 1)], none, 0, 0, []⟩])
 (.seq (.reg [⟨(some 5), .mv (.t 0), none, 65536, 0, []⟩,
   ⟨(some 6), .mv (.t 0), none, 65792, 1, []⟩,
   ⟨(some 7), .build [(.int .i64 0), (.int .i64 0), (.nil true 1)] [(0, 1, (.t 5)), (1, 1, (.t 6))], none, 66048, 2, []⟩,
   ⟨(some 3), .alloc [(.int .i64 0), (.int .i64 0), (.nil true 1)], none, 66304, 3, []⟩,
   ⟨none, .store 3 (.t 3) (.t 7), none, 66560, 4, []⟩])
 (.seq (.seq (.reg [⟨(some 4), .mv (.k (.int .i64 0)), none, 131072, 0, []⟩])
 (.block 0 (.loop [0, 2, 3, 4] [0, 3, 66304, 66307, 66561, 66562, 66563, 524545, 524546, 524547]
  (.seq (.seq (.reg [⟨(some 8), .mv (.t 4), none, 196608, 0, []⟩,
    ⟨(some 9), .mv (.t 0), none, 196864, 1, []⟩,
    ⟨(some 10), .mv (.t 0), none, 197120, 2, []⟩,
    ⟨(some 11), .bin .mul (.t 9) (.t 10), none, 197376, 3, []⟩,
    ⟨(some 12), .bin .lss (.t 8) (.t 11), none, 197632, 4, []⟩])
  (.cond (.t 12)
   (.skip)
   (.exit 0)))
  (.seq (.block 1 (.seq (.reg [⟨(some 15), .mv (.t 4), none, 327680, 0, []⟩,
    ⟨(some 16), .mv (.t 0), none, 327936, 1, []⟩,
    ⟨(some 17), .bin .add (.t 16) (.k (.int .i64 1)), none, 328192, 2, []⟩,
    ⟨(some 18), .bin .rem (.t 15) (.t 17), none, 328448, 3, []⟩,
    ⟨(some 19), .bin .eql (.t 18) (.k (.int .i64 0)), none, 328704, 4, []⟩])
  (.cond (.t 19)
   (.reg [⟨(some 20), .faddr 2 (.t 3), none, 393216, 0, []⟩,
     ⟨(some 21), .load 1 false (.t 20), none, 393472, 1, []⟩,
     ⟨(some 22), .bslice true 1 [(.int .i64 0)] 1 [(0, (.k (.int .i64 1)))], none, 393728, 2, []⟩,
     ⟨(some 23), .app true 1 8 (.t 21) (.t 22), none, 393984, 3, []⟩,
     ⟨(some 24), .faddr 2 (.t 3), none, 394240, 4, []⟩,
     ⟨none, .store 1 (.t 24) (.t 23), none, 394496, 5, []⟩])
   (.reg [⟨(some 25), .faddr 2 (.t 3), none, 458752, 0, []⟩,
     ⟨(some 26), .load 1 false (.t 25), none, 459008, 1, []⟩,
     ⟨(some 27), .bslice true 1 [(.int .i64 0)] 1 [(0, (.k (.int .i64 0)))], none, 459264, 2, []⟩,
     ⟨(some 28), .app true 1 8 (.t 26) (.t 27), none, 459520, 3, []⟩,
     ⟨(some 29), .faddr 2 (.t 3), none, 459776, 4, []⟩,
     ⟨none, .store 1 (.t 29) (.t 28), none, 460032, 5, []⟩]))))
  (.reg [⟨(some 13), .mv (.t 4), none, 262144, 0, []⟩,
    ⟨(some 14), .bin .add (.t 13) (.k (.int .i64 1)), none, 262400, 1, []⟩,
    ⟨(some 4), .mv (.t 14), none, 262656, 2, []⟩]))))))
 (.seq (.reg [⟨(some 30), .load 3 true (.t 3), none, 524288, 0, []⟩,
   ⟨none, .store 3 (.t 2) (.t 30), none, 524544, 1, []⟩])
 (.ret))))⟩
/-- loop.example/g00849/spec.l02Times -/
def F162 : F := ⟨2, 26, [.t 4],
 .seq (.reg [⟨(some 4), .mv (.k (.int .i64 0)), none, 0, 0, []⟩])
 (.seq (.reg [⟨(some 5), .mv (.k (.int .i64 0)), none, 65536, 0, []⟩])
 (.seq (.seq (.reg [⟨(some 6), .mv (.k (.int .i64 0)), none, 131072, 0, []⟩])
 (.block 0 (.loop [0, 1, 5, 6] []
  (.seq (.seq (.reg [⟨(some 7), .mv (.t 6), none, 196608, 0, []⟩,
    ⟨(some 8), .bin .lss (.t 7) (.k (.int .i64 8)), none, 196864, 1, []⟩])
  (.cond (.t 8)
   (.skip)
   (.exit 0)))
  (.seq (.block 1 (.seq (.seq (.reg [⟨(some 11), .mv (.t 1), none, 327680, 0, []⟩,
    ⟨(some 12), .bin .and (.t 11) (.k (.int .i64 1)), none, 327936, 1, []⟩,
    ⟨(some 13), .bin .neq (.t 12) (.k (.int .i64 0)), none, 328192, 2, []⟩])
  (.cond (.t 13)
   (.reg [⟨(some 14), .mv (.t 5), none, 393216, 0, []⟩,
     ⟨(some 15), .mv (.t 0), none, 393472, 1, []⟩,
     ⟨(some 16), .bin .xor (.t 14) (.t 15), none, 393728, 2, []⟩,
     ⟨(some 5), .mv (.t 16), none, 393984, 3, []⟩])
   (.skip)))
  (.seq (.reg [⟨(some 17), .mv (.t 1), none, 458752, 0, []⟩,
    ⟨(some 18), .bin .shr (.t 17) (.k (.int .u64 1)), none, 459008, 1, []⟩,
    ⟨(some 1), .mv (.t 18), none, 459264, 2, []⟩])
  (.seq (.reg [⟨(some 19), .mv (.t 0), none, 524288, 0, []⟩,
    ⟨(some 20), .bin .shl (.t 19) (.k (.int .u64 1)), none, 524544, 1, []⟩,
    ⟨(some 0), .mv (.t 20), none, 524800, 2, []⟩])
  (.seq (.reg [⟨(some 21), .mv (.t 0), none, 589824, 0, []⟩,
    ⟨(some 22), .bin .gtr (.t 21) (.k (.int .i64 255)), none, 590080, 1, []⟩])
  (.cond (.t 22)
   (.reg [⟨(some 23), .mv (.t 0), none, 655360, 0, []⟩,
     ⟨(some 24), .bin .xor (.t 23) (.k (.int .i64 285)), none, 655616, 1, []⟩,
     ⟨(some 0), .mv (.t 24), none, 655872, 2, []⟩])
   (.skip)))))))
  (.reg [⟨(some 9), .mv (.t 6), none, 262144, 0, []⟩,
    ⟨(some 10), .bin .add (.t 9) (.k (.int .i64 1)), none, 262400, 1, []⟩,
    ⟨(some 6), .mv (.t 10), none, 262656, 2, []⟩]))))))
 (.seq (.reg [⟨(some 25), .mv (.t 5), none, 720896, 0, []⟩,
   ⟨(some 4), .mv (.t 25), none, 721152, 1, []⟩])
 (.ret))))⟩
/-- loop.example/g00849/spec.l02Inv -/
def F163 : F := ⟨1, 5, [.t 2],
 .seq (.reg [⟨(some 2), .mv (.k (.int .i64 0)), none, 0, 0, []⟩])
 (.seq (.reg [⟨(some 3), .mv (.t 0), none, 65536, 0, []⟩,
   ⟨(some 4), .call 175 [(.t 3), (.k (.int .i64 254))] true, none, 65792, 1, []⟩,
   ⟨(some 2), .mv (.t 4), none, 66048, 2, []⟩])
 (.ret))⟩
/-- loop.example/g00849/impl.power -/
def F173 : F := ⟨2, 20, [.t 4],
 .seq (.reg [⟨(some 4), .mv (.k (.int .i64 0)), none, 0, 0, []⟩])
 (.seq (.reg [⟨(some 5), .mv (.k (.int .i64 1)), none, 65536, 0, []⟩])
 (.seq (.block 0 (.loop [0, 1, 5] []
  (.seq (.seq (.reg [⟨(some 6), .mv (.t 1), none, 131072, 0, []⟩,
    ⟨(some 7), .bin .gtr (.t 6) (.k (.int .i64 0)), none, 131328, 1, []⟩])
  (.cond (.t 7)
   (.skip)
   (.exit 0)))
  (.seq (.block 1 (.seq (.seq (.reg [⟨(some 10), .mv (.t 1), none, 262144, 0, []⟩,
    ⟨(some 11), .bin .rem (.t 10) (.k (.int .i64 2)), none, 262400, 1, []⟩,
    ⟨(some 12), .bin .eql (.t 11) (.k (.int .i64 1)), none, 262656, 2, []⟩])
  (.cond (.t 12)
   (.reg [⟨(some 13), .mv (.t 5), none, 327680, 0, []⟩,
     ⟨(some 14), .mv (.t 0), none, 327936, 1, []⟩,
     ⟨(some 15), .call 158 [(.t 13), (.t 14)] true, none, 328192, 2, []⟩,
     ⟨(some 5), .mv (.t 15), none, 328448, 3, []⟩])
   (.skip)))
  (.reg [⟨(some 16), .mv (.t 0), none, 393216, 0, []⟩,
    ⟨(some 17), .mv (.t 0), none, 393472, 1, []⟩,
    ⟨(some 18), .call 158 [(.t 16), (.t 17)] true, none, 393728, 2, []⟩,
    ⟨(some 0), .mv (.t 18), none, 393984, 3, []⟩])))
  (.reg [⟨(some 8), .mv (.t 1), none, 196608, 0, []⟩,
    ⟨(some 9), .bin .quo (.t 8) (.k (.int .i64 2)), none, 196864, 1, []⟩,
    ⟨(some 1), .mv (.t 9), none, 197120, 2, []⟩])))))
 (.seq (.reg [⟨(some 19), .mv (.t 5), none, 458752, 0, []⟩,
   ⟨(some 4), .mv (.t 19), none, 459008, 1, []⟩])
 (.ret))))⟩
/-- loop.example/g00849/impl.double -/
def F174 : F := ⟨1, 10, [.t 2],
 .seq (.reg [⟨(some 2), .mv (.k (.int .i64 0)), none, 0, 0, []⟩])
 (.seq (.reg [⟨(some 3), .mv (.t 0), none, 65536, 0, []⟩,
   ⟨(some 4), .bin .mul (.t 3) (.k (.int .i64 2)), none, 65792, 1, []⟩,
   ⟨(some 0), .mv (.t 4), none, 66048, 2, []⟩])
 (.seq (.seq (.reg [⟨(some 5), .mv (.t 0), none, 131072, 0, []⟩,
   ⟨(some 6), .bin .gtr (.t 5) (.k (.int .i64 255)), none, 131328, 1, []⟩])
 (.cond (.t 6)
  (.reg [⟨(some 7), .mv (.t 0), none, 196608, 0, []⟩,
    ⟨(some 8), .bin .xor (.t 7) (.k (.int .i64 285)), none, 196864, 1, []⟩,
    ⟨(some 0), .mv (.t 8), none, 197120, 2, []⟩])
  (.skip)))
 (.seq (.reg [⟨(some 9), .mv (.t 0), none, 262144, 0, []⟩,
   ⟨(some 2), .mv (.t 9), none, 262400, 1, []⟩])
 (.ret))))⟩
/-- loop.example/g00849/spec.l02Pow -/
def F175 : F := ⟨2, 20, [.t 4],
 .seq (.reg [⟨(some 4), .mv (.k (.int .i64 0)), none, 0, 0, []⟩])
 (.seq (.reg [⟨(some 5), .mv (.k (.int .i64 1)), none, 65536, 0, []⟩])
 (.seq (.block 0 (.loop [0, 1, 5] []
  (.seq (.seq (.reg [⟨(some 6), .mv (.t 1), none, 131072, 0, []⟩,
    ⟨(some 7), .bin .gtr (.t 6) (.k (.int .i64 0)), none, 131328, 1, []⟩])
  (.cond (.t 7)
   (.skip)
   (.exit 0)))
  (.block 1 (.seq (.seq (.reg [⟨(some 8), .mv (.t 1), none, 196608, 0, []⟩,
    ⟨(some 9), .bin .rem (.t 8) (.k (.int .i64 2)), none, 196864, 1, []⟩,
    ⟨(some 10), .bin .eql (.t 9) (.k (.int .i64 1)), none, 197120, 2, []⟩])
  (.cond (.t 10)
   (.reg [⟨(some 11), .mv (.t 5), none, 262144, 0, []⟩,
     ⟨(some 12), .mv (.t 0), none, 262400, 1, []⟩,
     ⟨(some 13), .call 162 [(.t 11), (.t 12)] true, none, 262656, 2, []⟩,
     ⟨(some 5), .mv (.t 13), none, 262912, 3, []⟩])
   (.skip)))
  (.seq (.reg [⟨(some 14), .mv (.t 0), none, 327680, 0, []⟩,
    ⟨(some 15), .mv (.t 0), none, 327936, 1, []⟩,
    ⟨(some 16), .call 162 [(.t 14), (.t 15)] true, none, 328192, 2, []⟩,
    ⟨(some 0), .mv (.t 16), none, 328448, 3, []⟩])
  (.reg [⟨(some 17), .mv (.t 1), none, 393216, 0, []⟩,
    ⟨(some 18), .bin .quo (.t 17) (.k (.int .i64 2)), none, 393472, 1, []⟩,
    ⟨(some 1), .mv (.t 18), none, 393728, 2, []⟩])))))))
 (.seq (.reg [⟨(some 19), .mv (.t 5), none, 458752, 0, []⟩,
   ⟨(some 4), .mv (.t 19), none, 459008, 1, []⟩])
 (.ret))))⟩
def fns : Nat → Option F
  | 13 => some F13
  | 14 => some F14
  | 15 => some F15
  | 18 => some F18
  | 30 => some F30
  | 33 => some F33
  | 42 => some F42
  | 43 => some F43
  | 44 => some F44
  | 45 => some F45
  | 46 => some F46
  | 49 => some F49
  | 50 => some F50
  | 52 => some F52
  | 54 => some F54
  | 58 => some F58
  | 59 => some F59
  | 60 => some F60
  | 61 => some F61
  | 62 => some F62
  | 63 => some F63
  | 64 => some F64
  | 65 => some F65
  | 66 => some F66
  | 67 => some F67
  | 68 => some F68
  | 77 => some F77
  | 79 => some F79
  | 80 => some F80
  | 81 => some F81
  | 82 => some F82
  | 83 => some F83
  | 84 => some F84
  | 86 => some F86
  | 88 => some F88
  | 90 => some F90
  | 91 => some F91
  | 92 => some F92
  | 93 => some F93
  | 94 => some F94
  | 96 => some F96
  | 97 => some F97
  | 98 => some F98
  | 99 => some F99
  | 100 => some F100
  | 101 => some F101
  | 102 => some F102
  | 103 => some F103
  | 106 => some F106
  | 113 => some F113
  | 114 => some F114
  | 115 => some F115
  | 116 => some F116
  | 117 => some F117
  | 118 => some F118
  | 119 => some F119
  | 120 => some F120
  | 121 => some F121
  | 122 => some F122
  | 129 => some F129
  | 131 => some F131
  | 132 => some F132
  | 133 => some F133
  | 134 => some F134
  | 136 => some F136
  | 138 => some F138
  | 144 => some F144
  | 146 => some F146
  | 147 => some F147
  | 148 => some F148
  | 154 => some F154
  | 155 => some F155
  | 157 => some F157
  | 158 => some F158
  | 159 => some F159
  | 160 => some F160
  | 161 => some F161
  | 162 => some F162
  | 163 => some F163
  | 173 => some F173
  | 174 => some F174
  | 175 => some F175
  | _ => none
def nats : Nat → Option (List AV → Option (AV × List Blk))
  | 74 => some natJoin
  | 95 => some C0.natBody
  | 135 => some natRepeat
  | 145 => some C0.natRepI
  | _ => none
def code : Prog := ⟨fns, md, nats⟩
theorem nat74 (k : Nat) (args : List AV) (E : List Heap) (v : AV) (bs : List Blk) (h : natJoin args = some (v, bs)) : call code (k + 1) 74 args E = some ⟨v, bs, E⟩ := call_nat rfl h
theorem nat95 (k : Nat) (args : List AV) (E : List Heap) (v : AV) (bs : List Blk) (h : C0.natBody args = some (v, bs)) : call code (k + 1) 95 args E = some ⟨v, bs, E⟩ := call_nat rfl h
theorem nat135 (k : Nat) (args : List AV) (E : List Heap) (v : AV) (bs : List Blk) (h : natRepeat args = some (v, bs)) : call code (k + 1) 135 args E = some ⟨v, bs, E⟩ := call_nat rfl h
theorem nat145 (k : Nat) (args : List AV) (E : List Heap) (v : AV) (bs : List Blk) (h : C0.natRepI args = some (v, bs)) : call code (k + 1) 145 args E = some ⟨v, bs, E⟩ := call_nat rfl h
theorem fn13 : code.fn 13 = some F13 := rfl
theorem fn14 : code.fn 14 = some F14 := rfl
theorem fn15 : code.fn 15 = some F15 := rfl
theorem fn18 : code.fn 18 = some F18 := rfl
theorem fn30 : code.fn 30 = some F30 := rfl
theorem fn33 : code.fn 33 = some F33 := rfl
theorem fn42 : code.fn 42 = some F42 := rfl
theorem fn43 : code.fn 43 = some F43 := rfl
theorem fn44 : code.fn 44 = some F44 := rfl
theorem fn45 : code.fn 45 = some F45 := rfl
theorem fn46 : code.fn 46 = some F46 := rfl
theorem fn49 : code.fn 49 = some F49 := rfl
theorem fn50 : code.fn 50 = some F50 := rfl
theorem fn52 : code.fn 52 = some F52 := rfl
theorem fn54 : code.fn 54 = some F54 := rfl
theorem fn58 : code.fn 58 = some F58 := rfl
theorem fn59 : code.fn 59 = some F59 := rfl
theorem fn60 : code.fn 60 = some F60 := rfl
theorem fn61 : code.fn 61 = some F61 := rfl
theorem fn62 : code.fn 62 = some F62 := rfl
theorem fn63 : code.fn 63 = some F63 := rfl
theorem fn64 : code.fn 64 = some F64 := rfl
theorem fn65 : code.fn 65 = some F65 := rfl
theorem fn66 : code.fn 66 = some F66 := rfl
theorem fn67 : code.fn 67 = some F67 := rfl
theorem fn68 : code.fn 68 = some F68 := rfl
theorem fn77 : code.fn 77 = some F77 := rfl
theorem fn79 : code.fn 79 = some F79 := rfl
theorem fn80 : code.fn 80 = some F80 := rfl
theorem fn81 : code.fn 81 = some F81 := rfl
theorem fn82 : code.fn 82 = some F82 := rfl
theorem fn83 : code.fn 83 = some F83 := rfl
theorem fn84 : code.fn 84 = some F84 := rfl
theorem fn86 : code.fn 86 = some F86 := rfl
theorem fn88 : code.fn 88 = some F88 := rfl
theorem fn90 : code.fn 90 = some F90 := rfl
theorem fn91 : code.fn 91 = some F91 := rfl
theorem fn92 : code.fn 92 = some F92 := rfl
theorem fn93 : code.fn 93 = some F93 := rfl
theorem fn94 : code.fn 94 = some F94 := rfl
theorem fn96 : code.fn 96 = some F96 := rfl
theorem fn97 : code.fn 97 = some F97 := rfl
theorem fn98 : code.fn 98 = some F98 := rfl
theorem fn99 : code.fn 99 = some F99 := rfl
theorem fn100 : code.fn 100 = some F100 := rfl
theorem fn101 : code.fn 101 = some F101 := rfl
theorem fn102 : code.fn 102 = some F102 := rfl
theorem fn103 : code.fn 103 = some F103 := rfl
theorem fn106 : code.fn 106 = some F106 := rfl
theorem fn113 : code.fn 113 = some F113 := rfl
theorem fn114 : code.fn 114 = some F114 := rfl
theorem fn115 : code.fn 115 = some F115 := rfl
theorem fn116 : code.fn 116 = some F116 := rfl
theorem fn117 : code.fn 117 = some F117 := rfl
theorem fn118 : code.fn 118 = some F118 := rfl
theorem fn119 : code.fn 119 = some F119 := rfl
theorem fn120 : code.fn 120 = some F120 := rfl
theorem fn121 : code.fn 121 = some F121 := rfl
theorem fn122 : code.fn 122 = some F122 := rfl
theorem fn129 : code.fn 129 = some F129 := rfl
theorem fn131 : code.fn 131 = some F131 := rfl
theorem fn132 : code.fn 132 = some F132 := rfl
theorem fn133 : code.fn 133 = some F133 := rfl
theorem fn134 : code.fn 134 = some F134 := rfl
theorem fn136 : code.fn 136 = some F136 := rfl
theorem fn138 : code.fn 138 = some F138 := rfl
theorem fn144 : code.fn 144 = some F144 := rfl
theorem fn146 : code.fn 146 = some F146 := rfl
theorem fn147 : code.fn 147 = some F147 := rfl
theorem fn148 : code.fn 148 = some F148 := rfl
theorem fn154 : code.fn 154 = some F154 := rfl
theorem fn155 : code.fn 155 = some F155 := rfl
theorem fn157 : code.fn 157 = some F157 := rfl
theorem fn158 : code.fn 158 = some F158 := rfl
theorem fn159 : code.fn 159 = some F159 := rfl
theorem fn160 : code.fn 160 = some F160 := rfl
theorem fn161 : code.fn 161 = some F161 := rfl
theorem fn162 : code.fn 162 = some F162 := rfl
theorem fn163 : code.fn 163 = some F163 := rfl
theorem fn173 : code.fn 173 = some F173 := rfl
theorem fn174 : code.fn 174 = some F174 := rfl
theorem fn175 : code.fn 175 = some F175 := rfl
section
variable {O : Oracle} {st : St} {Q : Ex → St → Prop} {fs : List Fr} {d : Option Nat} {b i : Nat} {ap : List X} {r : List IOp} (xs : List X) (fl : Bool)
theorem rcall74 : RunO O code.md (⟨d, .call 74 xs fl, none, b, i, ap⟩ :: r) fs st Q = (quietOk st (.call 74 xs fl) ap = true ∧ RunQ O code.md (callVal O st b 74 (evalXs st xs) fl) d r fs st Q) := R_call 74 xs fl rfl
theorem rcall95 : RunO O code.md (⟨d, .call 95 xs fl, none, b, i, ap⟩ :: r) fs st Q = (quietOk st (.call 95 xs fl) ap = true ∧ RunQ O code.md (callVal O st b 95 (evalXs st xs) fl) d r fs st Q) := R_call 95 xs fl rfl
theorem rcall135 : RunO O code.md (⟨d, .call 135 xs fl, none, b, i, ap⟩ :: r) fs st Q = (quietOk st (.call 135 xs fl) ap = true ∧ RunQ O code.md (callVal O st b 135 (evalXs st xs) fl) d r fs st Q) := R_call 135 xs fl rfl
theorem rcall145 : RunO O code.md (⟨d, .call 145 xs fl, none, b, i, ap⟩ :: r) fs st Q = (quietOk st (.call 145 xs fl) ap = true ∧ RunQ O code.md (callVal O st b 145 (evalXs st xs) fl) d r fs st Q) := R_call 145 xs fl rfl
theorem rcall13 : RunO O code.md (⟨d, .call 13 xs fl, none, b, i, ap⟩ :: r) fs st Q = (quietOk st (.call 13 xs fl) ap = true ∧ RunQ O code.md (callVal O st b 13 (evalXs st xs) fl) d r fs st Q) := R_call 13 xs fl rfl
theorem rcall14 : RunO O code.md (⟨d, .call 14 xs fl, none, b, i, ap⟩ :: r) fs st Q = (quietOk st (.call 14 xs fl) ap = true ∧ RunQ O code.md (callVal O st b 14 (evalXs st xs) fl) d r fs st Q) := R_call 14 xs fl rfl
theorem rcall15 : RunO O code.md (⟨d, .call 15 xs fl, none, b, i, ap⟩ :: r) fs st Q = (quietOk st (.call 15 xs fl) ap = true ∧ RunQ O code.md (callVal O st b 15 (evalXs st xs) fl) d r fs st Q) := R_call 15 xs fl rfl
theorem rcall18 : RunO O code.md (⟨d, .call 18 xs fl, none, b, i, ap⟩ :: r) fs st Q = (quietOk st (.call 18 xs fl) ap = true ∧ RunQ O code.md (callVal O st b 18 (evalXs st xs) fl) d r fs st Q) := R_call 18 xs fl rfl
theorem rcall30 : RunO O code.md (⟨d, .call 30 xs fl, none, b, i, ap⟩ :: r) fs st Q = (quietOk st (.call 30 xs fl) ap = true ∧ RunQ O code.md (callVal O st b 30 (evalXs st xs) fl) d r fs st Q) := R_call 30 xs fl rfl
theorem rcall33 : RunO O code.md (⟨d, .call 33 xs fl, none, b, i, ap⟩ :: r) fs st Q = (quietOk st (.call 33 xs fl) ap = true ∧ RunQ O code.md (callVal O st b 33 (evalXs st xs) fl) d r fs st Q) := R_call 33 xs fl rfl
theorem rcall42 : RunO O code.md (⟨d, .call 42 xs fl, none, b, i, ap⟩ :: r) fs st Q = (quietOk st (.call 42 xs fl) ap = true ∧ RunQ O code.md (callVal O st b 42 (evalXs st xs) fl) d r fs st Q) := R_call 42 xs fl rfl
theorem rcall43 : RunO O code.md (⟨d, .call 43 xs fl, none, b, i, ap⟩ :: r) fs st Q = (quietOk st (.call 43 xs fl) ap = true ∧ RunQ O code.md (callVal O st b 43 (evalXs st xs) fl) d r fs st Q) := R_call 43 xs fl rfl
theorem rcall44 : RunO O code.md (⟨d, .call 44 xs fl, none, b, i, ap⟩ :: r) fs st Q = ((apartOk st (.call 44 xs fl) ap && keyedOk st ap) = true ∧ RunK O code.md (callRef O st b 44 (evalXs st xs) fl) st (.call 44 xs fl) ap d r fs Q) := R_callr 44 xs fl rfl
theorem rcall45 : RunO O code.md (⟨d, .call 45 xs fl, none, b, i, ap⟩ :: r) fs st Q = (quietOk st (.call 45 xs fl) ap = true ∧ RunQ O code.md (callVal O st b 45 (evalXs st xs) fl) d r fs st Q) := R_call 45 xs fl rfl
theorem rcall46 : RunO O code.md (⟨d, .call 46 xs fl, none, b, i, ap⟩ :: r) fs st Q = (quietOk st (.call 46 xs fl) ap = true ∧ RunQ O code.md (callVal O st b 46 (evalXs st xs) fl) d r fs st Q) := R_call 46 xs fl rfl
theorem rcall49 : RunO O code.md (⟨d, .call 49 xs fl, none, b, i, ap⟩ :: r) fs st Q = (quietOk st (.call 49 xs fl) ap = true ∧ RunQ O code.md (callVal O st b 49 (evalXs st xs) fl) d r fs st Q) := R_call 49 xs fl rfl
theorem rcall50 : RunO O code.md (⟨d, .call 50 xs fl, none, b, i, ap⟩ :: r) fs st Q = (quietOk st (.call 50 xs fl) ap = true ∧ RunQ O code.md (callVal O st b 50 (evalXs st xs) fl) d r fs st Q) := R_call 50 xs fl rfl
theorem rcall52 : RunO O code.md (⟨d, .call 52 xs fl, none, b, i, ap⟩ :: r) fs st Q = (quietOk st (.call 52 xs fl) ap = true ∧ RunQ O code.md (callVal O st b 52 (evalXs st xs) fl) d r fs st Q) := R_call 52 xs fl rfl
theorem rcall54 : RunO O code.md (⟨d, .call 54 xs fl, none, b, i, ap⟩ :: r) fs st Q = (quietOk st (.call 54 xs fl) ap = true ∧ RunQ O code.md (callVal O st b 54 (evalXs st xs) fl) d r fs st Q) := R_call 54 xs fl rfl
theorem rcall58 : RunO O code.md (⟨d, .call 58 xs fl, none, b, i, ap⟩ :: r) fs st Q = (quietOk st (.call 58 xs fl) ap = true ∧ RunQ O code.md (callVal O st b 58 (evalXs st xs) fl) d r fs st Q) := R_call 58 xs fl rfl
theorem rcall59 : RunO O code.md (⟨d, .call 59 xs fl, none, b, i, ap⟩ :: r) fs st Q = (quietOk st (.call 59 xs fl) ap = true ∧ RunQ O code.md (callVal O st b 59 (evalXs st xs) fl) d r fs st Q) := R_call 59 xs fl rfl
theorem rcall60 : RunO O code.md (⟨d, .call 60 xs fl, none, b, i, ap⟩ :: r) fs st Q = (quietOk st (.call 60 xs fl) ap = true ∧ RunQ O code.md (callVal O st b 60 (evalXs st xs) fl) d r fs st Q) := R_call 60 xs fl rfl
theorem rcall61 : RunO O code.md (⟨d, .call 61 xs fl, none, b, i, ap⟩ :: r) fs st Q = ((apartOk st (.call 61 xs fl) ap && keyedOk st ap) = true ∧ RunK O code.md (callRef O st b 61 (evalXs st xs) fl) st (.call 61 xs fl) ap d r fs Q) := R_callr 61 xs fl rfl
theorem rcall62 : RunO O code.md (⟨d, .call 62 xs fl, none, b, i, ap⟩ :: r) fs st Q = (quietOk st (.call 62 xs fl) ap = true ∧ RunQ O code.md (callVal O st b 62 (evalXs st xs) fl) d r fs st Q) := R_call 62 xs fl rfl
theorem rcall63 : RunO O code.md (⟨d, .call 63 xs fl, none, b, i, ap⟩ :: r) fs st Q = (quietOk st (.call 63 xs fl) ap = true ∧ RunQ O code.md (callVal O st b 63 (evalXs st xs) fl) d r fs st Q) := R_call 63 xs fl rfl
theorem rcall64 : RunO O code.md (⟨d, .call 64 xs fl, none, b, i, ap⟩ :: r) fs st Q = (quietOk st (.call 64 xs fl) ap = true ∧ RunQ O code.md (callVal O st b 64 (evalXs st xs) fl) d r fs st Q) := R_call 64 xs fl rfl
theorem rcall65 : RunO O code.md (⟨d, .call 65 xs fl, none, b, i, ap⟩ :: r) fs st Q = (quietOk st (.call 65 xs fl) ap = true ∧ RunQ O code.md (callVal O st b 65 (evalXs st xs) fl) d r fs st Q) := R_call 65 xs fl rfl
theorem rcall66 : RunO O code.md (⟨d, .call 66 xs fl, none, b, i, ap⟩ :: r) fs st Q = (quietOk st (.call 66 xs fl) ap = true ∧ RunQ O code.md (callVal O st b 66 (evalXs st xs) fl) d r fs st Q) := R_call 66 xs fl rfl
theorem rcall67 : RunO O code.md (⟨d, .call 67 xs fl, none, b, i, ap⟩ :: r) fs st Q = (quietOk st (.call 67 xs fl) ap = true ∧ RunQ O code.md (callVal O st b 67 (evalXs st xs) fl) d r fs st Q) := R_call 67 xs fl rfl
theorem rcall68 : RunO O code.md (⟨d, .call 68 xs fl, none, b, i, ap⟩ :: r) fs st Q = (quietOk st (.call 68 xs fl) ap = true ∧ RunQ O code.md (callVal O st b 68 (evalXs st xs) fl) d r fs st Q) := R_call 68 xs fl rfl
theorem rcall77 : RunO O code.md (⟨d, .call 77 xs fl, none, b, i, ap⟩ :: r) fs st Q = (quietOk st (.call 77 xs fl) ap = true ∧ RunQ O code.md (callVal O st b 77 (evalXs st xs) fl) d r fs st Q) := R_call 77 xs fl rfl
theorem rcall79 : RunO O code.md (⟨d, .call 79 xs fl, none, b, i, ap⟩ :: r) fs st Q = (quietOk st (.call 79 xs fl) ap = true ∧ RunQ O code.md (callVal O st b 79 (evalXs st xs) fl) d r fs st Q) := R_call 79 xs fl rfl
theorem rcall80 : RunO O code.md (⟨d, .call 80 xs fl, none, b, i, ap⟩ :: r) fs st Q = (quietOk st (.call 80 xs fl) ap = true ∧ RunQ O code.md (callVal O st b 80 (evalXs st xs) fl) d r fs st Q) := R_call 80 xs fl rfl
theorem rcall81 : RunO O code.md (⟨d, .call 81 xs fl, none, b, i, ap⟩ :: r) fs st Q = (quietOk st (.call 81 xs fl) ap = true ∧ RunQ O code.md (callVal O st b 81 (evalXs st xs) fl) d r fs st Q) := R_call 81 xs fl rfl
theorem rcall82 : RunO O code.md (⟨d, .call 82 xs fl, none, b, i, ap⟩ :: r) fs st Q = (quietOk st (.call 82 xs fl) ap = true ∧ RunQ O code.md (callVal O st b 82 (evalXs st xs) fl) d r fs st Q) := R_call 82 xs fl rfl
theorem rcall83 : RunO O code.md (⟨d, .call 83 xs fl, none, b, i, ap⟩ :: r) fs st Q = ((apartOk st (.call 83 xs fl) ap && keyedOk st ap) = true ∧ RunK O code.md (callRef O st b 83 (evalXs st xs) fl) st (.call 83 xs fl) ap d r fs Q) := R_callr 83 xs fl rfl
theorem rcall84 : RunO O code.md (⟨d, .call 84 xs fl, none, b, i, ap⟩ :: r) fs st Q = (quietOk st (.call 84 xs fl) ap = true ∧ RunQ O code.md (callVal O st b 84 (evalXs st xs) fl) d r fs st Q) := R_call 84 xs fl rfl
theorem rcall86 : RunO O code.md (⟨d, .call 86 xs fl, none, b, i, ap⟩ :: r) fs st Q = (quietOk st (.call 86 xs fl) ap = true ∧ RunQ O code.md (callVal O st b 86 (evalXs st xs) fl) d r fs st Q) := R_call 86 xs fl rfl
theorem rcall88 : RunO O code.md (⟨d, .call 88 xs fl, none, b, i, ap⟩ :: r) fs st Q = (quietOk st (.call 88 xs fl) ap = true ∧ RunQ O code.md (callVal O st b 88 (evalXs st xs) fl) d r fs st Q) := R_call 88 xs fl rfl
theorem rcall90 : RunO O code.md (⟨d, .call 90 xs fl, none, b, i, ap⟩ :: r) fs st Q = (quietOk st (.call 90 xs fl) ap = true ∧ RunQ O code.md (callVal O st b 90 (evalXs st xs) fl) d r fs st Q) := R_call 90 xs fl rfl
theorem rcall91 : RunO O code.md (⟨d, .call 91 xs fl, none, b, i, ap⟩ :: r) fs st Q = (quietOk st (.call 91 xs fl) ap = true ∧ RunQ O code.md (callVal O st b 91 (evalXs st xs) fl) d r fs st Q) := R_call 91 xs fl rfl
theorem rcall92 : RunO O code.md (⟨d, .call 92 xs fl, none, b, i, ap⟩ :: r) fs st Q = (quietOk st (.call 92 xs fl) ap = true ∧ RunQ O code.md (callVal O st b 92 (evalXs st xs) fl) d r fs st Q) := R_call 92 xs fl rfl
theorem rcall93 : RunO O code.md (⟨d, .call 93 xs fl, none, b, i, ap⟩ :: r) fs st Q = ((apartOk st (.call 93 xs fl) ap && keyedOk st ap) = true ∧ RunK O code.md (callRef O st b 93 (evalXs st xs) fl) st (.call 93 xs fl) ap d r fs Q) := R_callr 93 xs fl rfl
theorem rcall94 : RunO O code.md (⟨d, .call 94 xs fl, none, b, i, ap⟩ :: r) fs st Q = (quietOk st (.call 94 xs fl) ap = true ∧ RunQ O code.md (callVal O st b 94 (evalXs st xs) fl) d r fs st Q) := R_call 94 xs fl rfl
theorem rcall96 : RunO O code.md (⟨d, .call 96 xs fl, none, b, i, ap⟩ :: r) fs st Q = (quietOk st (.call 96 xs fl) ap = true ∧ RunQ O code.md (callVal O st b 96 (evalXs st xs) fl) d r fs st Q) := R_call 96 xs fl rfl
theorem rcall97 : RunO O code.md (⟨d, .call 97 xs fl, none, b, i, ap⟩ :: r) fs st Q = (quietOk st (.call 97 xs fl) ap = true ∧ RunQ O code.md (callVal O st b 97 (evalXs st xs) fl) d r fs st Q) := R_call 97 xs fl rfl
theorem rcall98 : RunO O code.md (⟨d, .call 98 xs fl, none, b, i, ap⟩ :: r) fs st Q = (quietOk st (.call 98 xs fl) ap = true ∧ RunQ O code.md (callVal O st b 98 (evalXs st xs) fl) d r fs st Q) := R_call 98 xs fl rfl
theorem rcall99 : RunO O code.md (⟨d, .call 99 xs fl, none, b, i, ap⟩ :: r) fs st Q = (quietOk st (.call 99 xs fl) ap = true ∧ RunQ O code.md (callVal O st b 99 (evalXs st xs) fl) d r fs st Q) := R_call 99 xs fl rfl
theorem rcall100 : RunO O code.md (⟨d, .call 100 xs fl, none, b, i, ap⟩ :: r) fs st Q = (quietOk st (.call 100 xs fl) ap = true ∧ RunQ O code.md (callVal O st b 100 (evalXs st xs) fl) d r fs st Q) := R_call 100 xs fl rfl
theorem rcall101 : RunO O code.md (⟨d, .call 101 xs fl, none, b, i, ap⟩ :: r) fs st Q = (quietOk st (.call 101 xs fl) ap = true ∧ RunQ O code.md (callVal O st b 101 (evalXs st xs) fl) d r fs st Q) := R_call 101 xs fl rfl
theorem rcall102 : RunO O code.md (⟨d, .call 102 xs fl, none, b, i, ap⟩ :: r) fs st Q = (quietOk st (.call 102 xs fl) ap = true ∧ RunQ O code.md (callVal O st b 102 (evalXs st xs) fl) d r fs st Q) := R_call 102 xs fl rfl
theorem rcall103 : RunO O code.md (⟨d, .call 103 xs fl, none, b, i, ap⟩ :: r) fs st Q = (quietOk st (.call 103 xs fl) ap = true ∧ RunQ O code.md (callVal O st b 103 (evalXs st xs) fl) d r fs st Q) := R_call 103 xs fl rfl
theorem rcall106 : RunO O code.md (⟨d, .call 106 xs fl, none, b, i, ap⟩ :: r) fs st Q = (quietOk st (.call 106 xs fl) ap = true ∧ RunQ O code.md (callVal O st b 106 (evalXs st xs) fl) d r fs st Q) := R_call 106 xs fl rfl
theorem rcall113 : RunO O code.md (⟨d, .call 113 xs fl, none, b, i, ap⟩ :: r) fs st Q = (quietOk st (.call 113 xs fl) ap = true ∧ RunQ O code.md (callVal O st b 113 (evalXs st xs) fl) d r fs st Q) := R_call 113 xs fl rfl
theorem rcall114 : RunO O code.md (⟨d, .call 114 xs fl, none, b, i, ap⟩ :: r) fs st Q = (quietOk st (.call 114 xs fl) ap = true ∧ RunQ O code.md (callVal O st b 114 (evalXs st xs) fl) d r fs st Q) := R_call 114 xs fl rfl
theorem rcall115 : RunO O code.md (⟨d, .call 115 xs fl, none, b, i, ap⟩ :: r) fs st Q = (quietOk st (.call 115 xs fl) ap = true ∧ RunQ O code.md (callVal O st b 115 (evalXs st xs) fl) d r fs st Q) := R_call 115 xs fl rfl
theorem rcall116 : RunO O code.md (⟨d, .call 116 xs fl, none, b, i, ap⟩ :: r) fs st Q = (quietOk st (.call 116 xs fl) ap = true ∧ RunQ O code.md (callVal O st b 116 (evalXs st xs) fl) d r fs st Q) := R_call 116 xs fl rfl
theorem rcall117 : RunO O code.md (⟨d, .call 117 xs fl, none, b, i, ap⟩ :: r) fs st Q = (quietOk st (.call 117 xs fl) ap = true ∧ RunQ O code.md (callVal O st b 117 (evalXs st xs) fl) d r fs st Q) := R_call 117 xs fl rfl
theorem rcall118 : RunO O code.md (⟨d, .call 118 xs fl, none, b, i, ap⟩ :: r) fs st Q = (quietOk st (.call 118 xs fl) ap = true ∧ RunQ O code.md (callVal O st b 118 (evalXs st xs) fl) d r fs st Q) := R_call 118 xs fl rfl
theorem rcall119 : RunO O code.md (⟨d, .call 119 xs fl, none, b, i, ap⟩ :: r) fs st Q = (quietOk st (.call 119 xs fl) ap = true ∧ RunQ O code.md (callVal O st b 119 (evalXs st xs) fl) d r fs st Q) := R_call 119 xs fl rfl
theorem rcall120 : RunO O code.md (⟨d, .call 120 xs fl, none, b, i, ap⟩ :: r) fs st Q = (quietOk st (.call 120 xs fl) ap = true ∧ RunQ O code.md (callVal O st b 120 (evalXs st xs) fl) d r fs st Q) := R_call 120 xs fl rfl
theorem rcall121 : RunO O code.md (⟨d, .call 121 xs fl, none, b, i, ap⟩ :: r) fs st Q = (quietOk st (.call 121 xs fl) ap = true ∧ RunQ O code.md (callVal O st b 121 (evalXs st xs) fl) d r fs st Q) := R_call 121 xs fl rfl
theorem rcall122 : RunO O code.md (⟨d, .call 122 xs fl, none, b, i, ap⟩ :: r) fs st Q = ((apartOk st (.call 122 xs fl) ap && keyedOk st ap) = true ∧ RunK O code.md (callRef O st b 122 (evalXs st xs) fl) st (.call 122 xs fl) ap d r fs Q) := R_callr 122 xs fl rfl
theorem rcall129 : RunO O code.md (⟨d, .call 129 xs fl, none, b, i, ap⟩ :: r) fs st Q = (quietOk st (.call 129 xs fl) ap = true ∧ RunQ O code.md (callVal O st b 129 (evalXs st xs) fl) d r fs st Q) := R_call 129 xs fl rfl
theorem rcall131 : RunO O code.md (⟨d, .call 131 xs fl, none, b, i, ap⟩ :: r) fs st Q = (quietOk st (.call 131 xs fl) ap = true ∧ RunQ O code.md (callVal O st b 131 (evalXs st xs) fl) d r fs st Q) := R_call 131 xs fl rfl
theorem rcall132 : RunO O code.md (⟨d, .call 132 xs fl, none, b, i, ap⟩ :: r) fs st Q = (quietOk st (.call 132 xs fl) ap = true ∧ RunQ O code.md (callVal O st b 132 (evalXs st xs) fl) d r fs st Q) := R_call 132 xs fl rfl
theorem rcall133 : RunO O code.md (⟨d, .call 133 xs fl, none, b, i, ap⟩ :: r) fs st Q = (quietOk st (.call 133 xs fl) ap = true ∧ RunQ O code.md (callVal O st b 133 (evalXs st xs) fl) d r fs st Q) := R_call 133 xs fl rfl
theorem rcall134 : RunO O code.md (⟨d, .call 134 xs fl, none, b, i, ap⟩ :: r) fs st Q = ((apartOk st (.call 134 xs fl) ap && keyedOk st ap) = true ∧ RunK O code.md (callRef O st b 134 (evalXs st xs) fl) st (.call 134 xs fl) ap d r fs Q) := R_callr 134 xs fl rfl
theorem rcall136 : RunO O code.md (⟨d, .call 136 xs fl, none, b, i, ap⟩ :: r) fs st Q = (quietOk st (.call 136 xs fl) ap = true ∧ RunQ O code.md (callVal O st b 136 (evalXs st xs) fl) d r fs st Q) := R_call 136 xs fl rfl
theorem rcall138 : RunO O code.md (⟨d, .call 138 xs fl, none, b, i, ap⟩ :: r) fs st Q = (quietOk st (.call 138 xs fl) ap = true ∧ RunQ O code.md (callVal O st b 138 (evalXs st xs) fl) d r fs st Q) := R_call 138 xs fl rfl
theorem rcall144 : RunO O code.md (⟨d, .call 144 xs fl, none, b, i, ap⟩ :: r) fs st Q = (quietOk st (.call 144 xs fl) ap = true ∧ RunQ O code.md (callVal O st b 144 (evalXs st xs) fl) d r fs st Q) := R_call 144 xs fl rfl
theorem rcall146 : RunO O code.md (⟨d, .call 146 xs fl, none, b, i, ap⟩ :: r) fs st Q = (quietOk st (.call 146 xs fl) ap = true ∧ RunQ O code.md (callVal O st b 146 (evalXs st xs) fl) d r fs st Q) := R_call 146 xs fl rfl
theorem rcall147 : RunO O code.md (⟨d, .call 147 xs fl, none, b, i, ap⟩ :: r) fs st Q = (quietOk st (.call 147 xs fl) ap = true ∧ RunQ O code.md (callVal O st b 147 (evalXs st xs) fl) d r fs st Q) := R_call 147 xs fl rfl
theorem rcall148 : RunO O code.md (⟨d, .call 148 xs fl, none, b, i, ap⟩ :: r) fs st Q = ((apartOk st (.call 148 xs fl) ap && keyedOk st ap) = true ∧ RunK O code.md (callRef O st b 148 (evalXs st xs) fl) st (.call 148 xs fl) ap d r fs Q) := R_callr 148 xs fl rfl
theorem rcall154 : RunO O code.md (⟨d, .call 154 xs fl, none, b, i, ap⟩ :: r) fs st Q = (quietOk st (.call 154 xs fl) ap = true ∧ RunQ O code.md (callVal O st b 154 (evalXs st xs) fl) d r fs st Q) := R_call 154 xs fl rfl
theorem rcall155 : RunO O code.md (⟨d, .call 155 xs fl, none, b, i, ap⟩ :: r) fs st Q = (quietOk st (.call 155 xs fl) ap = true ∧ RunV O code.md (callView O st 155 (evalXs st xs)) d r fs st Q) := R_callv' 155 xs fl rfl
theorem rcall157 : RunO O code.md (⟨d, .call 157 xs fl, none, b, i, ap⟩ :: r) fs st Q = (quietOk st (.call 157 xs fl) ap = true ∧ RunQ O code.md (callVal O st b 157 (evalXs st xs) fl) d r fs st Q) := R_call 157 xs fl rfl
theorem rcall158 : RunO O code.md (⟨d, .call 158 xs fl, none, b, i, ap⟩ :: r) fs st Q = (quietOk st (.call 158 xs fl) ap = true ∧ RunQ O code.md (callVal O st b 158 (evalXs st xs) fl) d r fs st Q) := R_call 158 xs fl rfl
theorem rcall159 : RunO O code.md (⟨d, .call 159 xs fl, none, b, i, ap⟩ :: r) fs st Q = (quietOk st (.call 159 xs fl) ap = true ∧ RunQ O code.md (callVal O st b 159 (evalXs st xs) fl) d r fs st Q) := R_call 159 xs fl rfl
theorem rcall160 : RunO O code.md (⟨d, .call 160 xs fl, none, b, i, ap⟩ :: r) fs st Q = (quietOk st (.call 160 xs fl) ap = true ∧ RunQ O code.md (callVal O st b 160 (evalXs st xs) fl) d r fs st Q) := R_call 160 xs fl rfl
theorem rcall161 : RunO O code.md (⟨d, .call 161 xs fl, none, b, i, ap⟩ :: r) fs st Q = (quietOk st (.call 161 xs fl) ap = true ∧ RunQ O code.md (callVal O st b 161 (evalXs st xs) fl) d r fs st Q) := R_call 161 xs fl rfl
theorem rcall162 : RunO O code.md (⟨d, .call 162 xs fl, none, b, i, ap⟩ :: r) fs st Q = (quietOk st (.call 162 xs fl) ap = true ∧ RunQ O code.md (callVal O st b 162 (evalXs st xs) fl) d r fs st Q) := R_call 162 xs fl rfl
theorem rcall163 : RunO O code.md (⟨d, .call 163 xs fl, none, b, i, ap⟩ :: r) fs st Q = (quietOk st (.call 163 xs fl) ap = true ∧ RunQ O code.md (callVal O st b 163 (evalXs st xs) fl) d r fs st Q) := R_call 163 xs fl rfl
theorem rcall173 : RunO O code.md (⟨d, .call 173 xs fl, none, b, i, ap⟩ :: r) fs st Q = (quietOk st (.call 173 xs fl) ap = true ∧ RunQ O code.md (callVal O st b 173 (evalXs st xs) fl) d r fs st Q) := R_call 173 xs fl rfl
theorem rcall174 : RunO O code.md (⟨d, .call 174 xs fl, none, b, i, ap⟩ :: r) fs st Q = (quietOk st (.call 174 xs fl) ap = true ∧ RunQ O code.md (callVal O st b 174 (evalXs st xs) fl) d r fs st Q) := R_call 174 xs fl rfl
theorem rcall175 : RunO O code.md (⟨d, .call 175 xs fl, none, b, i, ap⟩ :: r) fs st Q = (quietOk st (.call 175 xs fl) ap = true ∧ RunQ O code.md (callVal O st b 175 (evalXs st xs) fl) d r fs st Q) := R_call 175 xs fl rfl
end
end Go.Ae.C3
