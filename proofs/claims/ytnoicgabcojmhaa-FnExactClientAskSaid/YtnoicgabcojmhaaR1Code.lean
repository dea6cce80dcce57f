/- The code of the functions, for the evaluator. -/
import Derived.Test.YtnoicgabcojmhaaAeWp
namespace Go.Ae.R1

def md : Nat → Mode := fun _ => .val
/-- loop.example/g00849/laws.FnExactCallerOk -/
def F3 : F := ⟨1, 20, [.t 2],
 .seq (.reg [⟨(some 1), .box (.t 0), none, 0, 0, []⟩,
   ⟨(some 2), .mv (.k (.bool false)), none, 256, 1, []⟩])
 (.seq (.reg [⟨(some 3), .mv (.k (.int .i64 1048576)), none, 65536, 0, []⟩])
 (.seq (.reg [⟨(some 6), .load 10 true (.t 1), none, 131072, 0, []⟩,
   ⟨(some 7), .mv (.t 3), none, 131328, 1, []⟩,
   ⟨(some 8), .call 9 [(.t 6), (.t 7)] true, none, 131584, 2, []⟩,
   ⟨(some 3), .mv (.t 8), none, 131840, 3, []⟩])
 (.seq (.seq (.reg [⟨(some 9), .mv (.t 3), none, 196608, 0, []⟩,
   ⟨(some 10), .bin .lss (.t 9) (.k (.int .i64 0)), none, 196864, 1, []⟩])
 (.cond (.t 10)
  (.seq (.reg [⟨(some 2), .mv (.k (.bool true)), none, 262144, 0, []⟩])
  (.ret))
  (.skip)))
 (.seq (.reg [⟨(some 11), .load 10 true (.t 1), none, 327680, 0, []⟩,
   ⟨(some 12), .call 11 [(.t 11)] true, none, 327936, 1, []⟩,
   ⟨(some 13), .call 10 [(.t 12)] true, none, 328192, 2, []⟩,
   ⟨(some 4), .mv (.t 13), none, 328448, 3, []⟩])
 (.seq (.reg [⟨(some 14), .load 10 true (.t 1), none, 393216, 0, []⟩,
   ⟨(some 15), .call 11 [(.t 14)] true, none, 393472, 1, []⟩,
   ⟨(some 16), .call 12 [(.t 15)] true, none, 393728, 2, []⟩,
   ⟨(some 5), .mv (.t 16), none, 393984, 3, []⟩])
 (.seq (.seq (.reg [⟨(some 17), .mv (.t 5), none, 458752, 0, []⟩,
   ⟨(some 18), .mv (.t 4), none, 459008, 1, []⟩,
   ⟨(some 19), .eqv true false [.b] (.t 17) (.t 18), none, 459264, 2, []⟩])
 (.cond (.t 19)
  (.seq (.reg [⟨(some 2), .mv (.k (.bool false)), none, 524288, 0, []⟩])
  (.ret))
  (.skip)))
 (.seq (.reg [⟨(some 2), .mv (.k (.bool true)), none, 589824, 0, []⟩])
 (.ret))))))))⟩
/-- loop.example/g00849/laws.FnExactCallOf -/
def F4 : F := ⟨2, 25, [.t 4],
 .seq (.reg [⟨(some 2), .box (.t 0), none, 0, 0, []⟩,
   ⟨(some 4), .mv (.k (.bool false)), none, 256, 1, []⟩])
 (.seq (.reg [⟨(some 5), .mv (.k (.int .i64 1048576)), none, 65536, 0, []⟩])
 (.seq (.reg [⟨(some 8), .load 10 true (.t 2), none, 131072, 0, []⟩,
   ⟨(some 9), .mv (.t 5), none, 131328, 1, []⟩,
   ⟨(some 10), .call 9 [(.t 8), (.t 9)] true, none, 131584, 2, []⟩,
   ⟨(some 5), .mv (.t 10), none, 131840, 3, []⟩])
 (.seq (.seq (.reg [⟨(some 11), .mv (.t 5), none, 196608, 0, []⟩,
   ⟨(some 12), .bin .lss (.t 11) (.k (.int .i64 0)), none, 196864, 1, []⟩])
 (.cond (.t 12)
  (.seq (.reg [⟨(some 4), .mv (.k (.bool true)), none, 262144, 0, []⟩])
  (.ret))
  (.skip)))
 (.seq (.reg [⟨(some 13), .load 10 true (.t 2), none, 327680, 0, []⟩,
   ⟨(some 14), .call 11 [(.t 13)] true, none, 327936, 1, []⟩,
   ⟨(some 15), .mv (.t 1), none, 328192, 2, []⟩,
   ⟨(some 16), .call 13 [(.t 14), (.t 15)] true, none, 328448, 3, []⟩,
   ⟨(some 6), .alloc [(.int .i64 0), (.int .i64 0), (.int .i64 0), (.int .i64 0), (.str ByteArray.empty), (.int .i64 0), (.int .i64 0), (.str ByteArray.empty), (.int .i64 0), (.int .i64 0), (.int .i64 0), (.int .i64 0), (.int .i64 0), (.str ByteArray.empty)], none, 328704, 4, []⟩,
   ⟨none, .store 14 (.t 6) (.t 16), none, 328960, 5, []⟩])
 (.seq (.reg [⟨(some 17), .load 10 true (.t 2), none, 393216, 0, []⟩,
   ⟨(some 18), .call 11 [(.t 17)] true, none, 393472, 1, []⟩,
   ⟨(some 19), .mv (.t 1), none, 393728, 2, []⟩,
   ⟨(some 20), .call 14 [(.t 18), (.t 19)] true, none, 393984, 3, []⟩,
   ⟨(some 7), .alloc [(.int .i64 0), (.int .i64 0), (.int .i64 0), (.int .i64 0), (.str ByteArray.empty), (.int .i64 0), (.int .i64 0), (.str ByteArray.empty), (.int .i64 0), (.int .i64 0), (.int .i64 0), (.int .i64 0), (.int .i64 0), (.str ByteArray.empty)], none, 394240, 4, []⟩,
   ⟨none, .store 14 (.t 7) (.t 20), none, 394496, 5, []⟩])
 (.seq (.seq (.reg [⟨(some 21), .load 14 true (.t 7), none, 458752, 0, []⟩,
   ⟨(some 22), .load 14 true (.t 6), none, 459008, 1, []⟩,
   ⟨(some 23), .call 15 [(.t 21), (.t 22)] true, none, 459264, 2, []⟩,
   ⟨(some 24), .not (.t 23), none, 459520, 3, []⟩])
 (.cond (.t 24)
  (.seq (.reg [⟨(some 4), .mv (.k (.bool false)), none, 524288, 0, []⟩])
  (.ret))
  (.skip)))
 (.seq (.reg [⟨(some 4), .mv (.k (.bool true)), none, 589824, 0, []⟩])
 (.ret))))))))⟩
/-- loop.example/g00849/laws.FnExactClientAsk -/
def F8 : F := ⟨4, 58, [.t 8],
 .seq (.reg [⟨(some 4), .box (.t 0), none, 0, 0, []⟩,
   ⟨(some 5), .box (.t 1), none, 256, 1, []⟩,
   ⟨(some 7), .box (.t 3), none, 512, 2, []⟩,
   ⟨(some 8), .mv (.k (.bool false)), none, 768, 3, []⟩])
 (.seq (.seq (.reg [⟨(some 14), .mv (.t 2), none, 65536, 0, []⟩,
   ⟨(some 15), .len true (.t 14), none, 65792, 1, []⟩,
   ⟨(some 16), .bin .gtr (.t 15) (.k (.int .i64 1048576)), none, 66048, 2, []⟩])
 (.cond (.t 16)
  (.seq (.reg [⟨(some 8), .mv (.k (.bool true)), none, 131072, 0, []⟩])
  (.ret))
  (.skip)))
 (.seq (.reg [⟨(some 9), .mv (.k (.int .i64 1048576)), none, 196608, 0, []⟩])
 (.seq (.reg [⟨(some 17), .load 10 true (.t 4), none, 262144, 0, []⟩,
   ⟨(some 18), .mv (.t 9), none, 262400, 1, []⟩,
   ⟨(some 19), .call 9 [(.t 17), (.t 18)] true, none, 262656, 2, []⟩,
   ⟨(some 9), .mv (.t 19), none, 262912, 3, []⟩])
 (.seq (.seq (.reg [⟨(some 20), .mv (.t 9), none, 327680, 0, []⟩,
   ⟨(some 21), .bin .lss (.t 20) (.k (.int .i64 0)), none, 327936, 1, []⟩])
 (.cond (.t 21)
  (.seq (.reg [⟨(some 8), .mv (.k (.bool true)), none, 393216, 0, []⟩])
  (.ret))
  (.skip)))
 (.seq (.reg [⟨(some 22), .load 3 true (.t 7), none, 458752, 0, []⟩,
   ⟨(some 23), .mv (.t 9), none, 459008, 1, []⟩,
   ⟨(some 24), .call 30 [(.t 22), (.t 23)] true, none, 459264, 2, []⟩,
   ⟨(some 9), .mv (.t 24), none, 459520, 3, []⟩])
 (.seq (.seq (.reg [⟨(some 25), .mv (.t 9), none, 524288, 0, []⟩,
   ⟨(some 26), .bin .lss (.t 25) (.k (.int .i64 0)), none, 524544, 1, []⟩])
 (.cond (.t 26)
  (.seq (.reg [⟨(some 8), .mv (.k (.bool true)), none, 589824, 0, []⟩])
  (.ret))
  (.skip)))
 (.seq (.reg [⟨(some 28), .load 10 true (.t 4), none, 655360, 0, []⟩,
   ⟨(some 29), .call 11 [(.t 28)] true, none, 655616, 1, []⟩,
   ⟨(some 30), .load 6 true (.t 5), none, 655872, 2, []⟩,
   ⟨(some 31), .call 32 [(.t 30)] true, none, 656128, 3, []⟩,
   ⟨(some 32), .mv (.t 2), none, 656384, 4, []⟩,
   ⟨(some 33), .load 3 true (.t 7), none, 656640, 5, []⟩,
   ⟨(some 34), .call 33 [(.t 33)] true, none, 656896, 6, []⟩,
   ⟨(some 35), .call 31 [(.t 29), (.t 31), (.t 32), (.t 34)] true, none, 657152, 7, []⟩,
   ⟨(some 27), .mv (.t 35), none, 657408, 8, []⟩,
   ⟨(some 36), .ext (.t 27) 0, none, 657664, 9, []⟩,
   ⟨(some 37), .ext (.t 27) 1, none, 657920, 10, []⟩,
   ⟨(some 10), .alloc [(.int .i64 0), (.int .i64 0), (.bool false), (.int .i64 0), (.int .i64 0), (.str ByteArray.empty), (.int .i64 0), (.int .i64 0), (.str ByteArray.empty), (.int .i64 0)], none, 658176, 11, []⟩,
   ⟨none, .store 10 (.t 10) (.t 36), none, 658432, 12, []⟩,
   ⟨(some 11), .mv (.t 37), none, 658688, 13, []⟩])
 (.seq (.reg [⟨(some 39), .load 10 true (.t 4), none, 720896, 0, []⟩,
   ⟨(some 40), .call 11 [(.t 39)] true, none, 721152, 1, []⟩,
   ⟨(some 41), .load 6 true (.t 5), none, 721408, 2, []⟩,
   ⟨(some 42), .call 32 [(.t 41)] true, none, 721664, 3, []⟩,
   ⟨(some 43), .mv (.t 2), none, 721920, 4, []⟩,
   ⟨(some 44), .load 3 true (.t 7), none, 722176, 5, []⟩,
   ⟨(some 45), .call 33 [(.t 44)] true, none, 722432, 6, []⟩,
   ⟨(some 46), .call 34 [(.t 40), (.t 42), (.t 43), (.t 45)] true, none, 722688, 7, []⟩,
   ⟨(some 38), .mv (.t 46), none, 722944, 8, []⟩,
   ⟨(some 47), .ext (.t 38) 0, none, 723200, 9, []⟩,
   ⟨(some 48), .ext (.t 38) 1, none, 723456, 10, []⟩,
   ⟨(some 12), .alloc [(.int .i64 0), (.int .i64 0), (.bool false), (.int .i64 0), (.int .i64 0), (.str ByteArray.empty), (.int .i64 0), (.int .i64 0), (.str ByteArray.empty), (.int .i64 0)], none, 723712, 11, []⟩,
   ⟨none, .store 10 (.t 12) (.t 47), none, 723968, 12, []⟩,
   ⟨(some 13), .mv (.t 48), none, 724224, 13, []⟩])
 (.seq (.seq (.reg [⟨(some 49), .load 10 true (.t 12), none, 786432, 0, []⟩,
   ⟨(some 50), .load 10 true (.t 10), none, 786688, 1, []⟩,
   ⟨(some 51), .call 35 [(.t 49), (.t 50)] true, none, 786944, 2, []⟩,
   ⟨(some 52), .not (.t 51), none, 787200, 3, []⟩,
   ⟨(some 53), .mv (.t 52), none, 787456, 4, []⟩,
   ⟨(some 54), .mv (.t 13), (some (some 53, false)), 787712, 5, []⟩,
   ⟨(some 55), .mv (.t 11), (some (some 53, false)), 787968, 6, []⟩,
   ⟨(some 56), .bin .neq (.t 54) (.t 55), (some (some 53, false)), 788224, 7, []⟩,
   ⟨(some 57), .pick (.t 53) (.k (.bool true)) (.t 56), none, 788480, 8, []⟩])
 (.cond (.t 57)
  (.seq (.reg [⟨(some 8), .mv (.k (.bool false)), none, 851968, 0, []⟩])
  (.ret))
  (.skip)))
 (.seq (.reg [⟨(some 8), .mv (.k (.bool true)), none, 917504, 0, []⟩])
 (.ret)))))))))))⟩
/-- loop.example/g00849/laws.szClient -/
def F9 : F := ⟨2, 19, [.t 4],
 .seq (.reg [⟨(some 2), .box (.t 0), none, 0, 0, []⟩,
   ⟨(some 4), .mv (.k (.int .i64 0)), none, 256, 1, []⟩])
 (.seq (.reg [⟨(some 5), .mv (.t 1), none, 65536, 0, []⟩,
   ⟨(some 6), .faddr 5 (.t 2), none, 65792, 1, []⟩,
   ⟨(some 7), .load 1 false (.t 6), none, 66048, 2, []⟩,
   ⟨(some 8), .len true (.t 7), none, 66304, 3, []⟩,
   ⟨(some 9), .bin .sub (.t 5) (.t 8), none, 66560, 4, []⟩,
   ⟨(some 1), .mv (.t 9), none, 66816, 5, []⟩])
 (.seq (.seq (.reg [⟨(some 10), .mv (.t 1), none, 131072, 0, []⟩,
   ⟨(some 11), .bin .lss (.t 10) (.k (.int .i64 0)), none, 131328, 1, []⟩])
 (.cond (.t 11)
  (.seq (.reg [⟨(some 4), .mv (.k (.int .i64 (-1))), none, 196608, 0, []⟩])
  (.ret))
  (.skip)))
 (.seq (.reg [⟨(some 12), .faddr 6 (.t 2), none, 262144, 0, []⟩,
   ⟨(some 13), .load 3 true (.t 12), none, 262400, 1, []⟩,
   ⟨(some 14), .mv (.t 1), none, 262656, 2, []⟩,
   ⟨(some 15), .call 30 [(.t 13), (.t 14)] true, none, 262912, 3, []⟩,
   ⟨(some 1), .mv (.t 15), none, 263168, 4, []⟩])
 (.seq (.seq (.reg [⟨(some 16), .mv (.t 1), none, 327680, 0, []⟩,
   ⟨(some 17), .bin .lss (.t 16) (.k (.int .i64 0)), none, 327936, 1, []⟩])
 (.cond (.t 17)
  (.seq (.reg [⟨(some 4), .mv (.k (.int .i64 (-1))), none, 393216, 0, []⟩])
  (.ret))
  (.skip)))
 (.seq (.reg [⟨(some 18), .mv (.t 1), none, 458752, 0, []⟩,
   ⟨(some 4), .mv (.t 18), none, 459008, 1, []⟩])
 (.ret))))))⟩
/-- loop.example/g00849/spec.CallerOk -/
def F10 : F := ⟨1, 61, [.t 2],
 .seq (.reg [⟨(some 1), .box (.t 0), none, 0, 0, []⟩,
   ⟨(some 2), .mv (.k (.bool false)), none, 256, 1, []⟩])
 (.seq (.seq (.reg [⟨(some 3), .faddr 0 (.t 1), none, 65536, 0, []⟩,
   ⟨(some 4), .load 1 false (.t 3), none, 65792, 1, []⟩,
   ⟨(some 5), .call 36 [(.t 4)] true, none, 66048, 2, []⟩,
   ⟨(some 6), .not (.t 5), none, 66304, 3, []⟩,
   ⟨(some 7), .mv (.t 6), none, 66560, 4, []⟩,
   ⟨(some 8), .faddr 1 (.t 1), (some (some 7, false)), 66816, 5, []⟩,
   ⟨(some 9), .load 1 false (.t 8), (some (some 7, false)), 67072, 6, []⟩,
   ⟨(some 10), .call 37 [(.t 9), (.k (.int .i64 0)), (.k (.int .i64 1000))] true, (some (some 7, false)), 67328, 7, []⟩,
   ⟨(some 11), .not (.t 10), (some (some 7, false)), 67584, 8, []⟩,
   ⟨(some 12), .pick (.t 7) (.k (.bool true)) (.t 11), none, 67840, 9, []⟩,
   ⟨(some 13), .mv (.t 12), none, 68096, 10, []⟩,
   ⟨(some 14), .faddr 9 (.t 1), (some (some 13, false)), 68352, 11, []⟩,
   ⟨(some 15), .load 1 false (.t 14), (some (some 13, false)), 68608, 12, []⟩,
   ⟨(some 16), .call 37 [(.t 15), (.k (.int .i64 0)), (.k (.int .i64 1000))] true, (some (some 13, false)), 68864, 13, []⟩,
   ⟨(some 17), .not (.t 16), (some (some 13, false)), 69120, 14, []⟩,
   ⟨(some 18), .pick (.t 13) (.k (.bool true)) (.t 17), none, 69376, 15, []⟩])
 (.cond (.t 18)
  (.seq (.reg [⟨(some 2), .mv (.k (.bool false)), none, 131072, 0, []⟩])
  (.ret))
  (.skip)))
 (.seq (.seq (.reg [⟨(some 19), .faddr 2 (.t 1), none, 196608, 0, []⟩,
   ⟨(some 20), .load 1 false (.t 19), none, 196864, 1, []⟩,
   ⟨(some 21), .not (.t 20), none, 197120, 2, []⟩])
 (.cond (.t 21)
  (.seq (.reg [⟨(some 22), .faddr 3 (.t 1), none, 262144, 0, []⟩,
    ⟨(some 23), .load 2 true (.t 22), none, 262400, 1, []⟩,
    ⟨(some 24), .build [(.int .i64 0), (.int .i64 0)] [], none, 262656, 2, []⟩,
    ⟨(some 25), .eqv false true [.i, .i] (.t 23) (.t 24), none, 262912, 3, []⟩,
    ⟨(some 26), .mv (.t 25), none, 263168, 4, []⟩,
    ⟨(some 27), .faddr 5 (.t 1), (some (some 26, true)), 263424, 5, []⟩,
    ⟨(some 28), .load 1 false (.t 27), (some (some 26, true)), 263680, 6, []⟩,
    ⟨(some 29), .bin .eql (.t 28) (.k (.str ByteArray.empty)), (some (some 26, true)), 263936, 7, []⟩,
    ⟨(some 30), .pick (.t 26) (.t 29) (.k (.bool false)), none, 264192, 8, []⟩,
    ⟨(some 31), .mv (.t 30), none, 264448, 9, []⟩,
    ⟨(some 32), .faddr 6 (.t 1), (some (some 31, true)), 264704, 10, []⟩,
    ⟨(some 33), .load 3 true (.t 32), (some (some 31, true)), 264960, 11, []⟩,
    ⟨(some 34), .build [(.int .i64 0), (.int .i64 0), (.str ByteArray.empty)] [], (some (some 31, true)), 265216, 12, []⟩,
    ⟨(some 35), .eqv false true [.i, .i, .s] (.t 33) (.t 34), (some (some 31, true)), 265472, 13, []⟩,
    ⟨(some 36), .pick (.t 31) (.t 35) (.k (.bool false)), none, 265728, 14, []⟩,
    ⟨(some 37), .mv (.t 36), none, 265984, 15, []⟩,
    ⟨(some 38), .faddr 9 (.t 1), (some (some 37, true)), 266240, 16, []⟩,
    ⟨(some 39), .load 1 false (.t 38), (some (some 37, true)), 266496, 17, []⟩,
    ⟨(some 40), .bin .eql (.t 39) (.k (.int .i64 0)), (some (some 37, true)), 266752, 18, []⟩,
    ⟨(some 41), .pick (.t 37) (.t 40) (.k (.bool false)), none, 267008, 19, []⟩,
    ⟨(some 2), .mv (.t 41), none, 267264, 20, []⟩])
  (.ret))
  (.skip)))
 (.seq (.reg [⟨(some 42), .faddr 1 (.t 1), none, 327680, 0, []⟩,
   ⟨(some 43), .load 1 false (.t 42), none, 327936, 1, []⟩,
   ⟨(some 44), .bin .geq (.t 43) (.k (.int .i64 1)), none, 328192, 2, []⟩,
   ⟨(some 45), .mv (.t 44), none, 328448, 3, []⟩,
   ⟨(some 46), .faddr 3 (.t 1), (some (some 45, true)), 328704, 4, []⟩,
   ⟨(some 47), .load 2 true (.t 46), (some (some 45, true)), 328960, 5, []⟩,
   ⟨(some 48), .call 38 [(.t 47)] true, (some (some 45, true)), 329216, 6, []⟩,
   ⟨(some 49), .pick (.t 45) (.t 48) (.k (.bool false)), none, 329472, 7, []⟩,
   ⟨(some 50), .mv (.t 49), none, 329728, 8, []⟩,
   ⟨(some 51), .faddr 5 (.t 1), (some (some 50, true)), 329984, 9, []⟩,
   ⟨(some 52), .load 1 false (.t 51), (some (some 50, true)), 330240, 10, []⟩,
   ⟨(some 53), .call 39 [(.t 52)] true, (some (some 50, true)), 330496, 11, []⟩,
   ⟨(some 54), .pick (.t 50) (.t 53) (.k (.bool false)), none, 330752, 12, []⟩,
   ⟨(some 55), .mv (.t 54), none, 331008, 13, []⟩,
   ⟨(some 56), .call 41 [] true, (some (some 55, true)), 331264, 14, []⟩,
   ⟨(some 57), .faddr 6 (.t 1), (some (some 55, true)), 331520, 15, []⟩,
   ⟨(some 58), .load 3 true (.t 57), (some (some 55, true)), 331776, 16, []⟩,
   ⟨(some 59), .call 40 [(.t 56), (.t 58)] true, (some (some 55, true)), 332032, 17, []⟩,
   ⟨(some 60), .pick (.t 55) (.t 59) (.k (.bool false)), none, 332288, 18, []⟩,
   ⟨(some 2), .mv (.t 60), none, 332544, 19, []⟩])
 (.ret))))⟩
/-- loop.example/g00849/laws.toClient -/
def F11 : F := ⟨1, 28, [.cell 2 10 true],
 .seq (.reg [⟨(some 1), .box (.t 0), none, 0, 0, []⟩,
   ⟨(some 2), .alloc [(.int .i64 0), (.int .i64 0), (.bool false), (.int .i64 0), (.int .i64 0), (.str ByteArray.empty), (.int .i64 0), (.int .i64 0), (.str ByteArray.empty), (.int .i64 0)], none, 256, 1, []⟩])
 (.seq (.reg [⟨(some 3), .alloc [(.int .i64 0), (.int .i64 0), (.bool false), (.int .i64 0), (.int .i64 0), (.str ByteArray.empty), (.int .i64 0), (.int .i64 0), (.str ByteArray.empty), (.int .i64 0)], none, 65536, 0, []⟩])
 (.seq (.reg [⟨(some 4), .faddr 0 (.t 1), none, 131072, 0, []⟩,
   ⟨(some 5), .load 1 false (.t 4), none, 131328, 1, []⟩,
   ⟨(some 6), .faddr 0 (.t 3), none, 131584, 2, []⟩,
   ⟨none, .store 1 (.t 6) (.t 5), none, 131840, 3, []⟩])
 (.seq (.reg [⟨(some 7), .faddr 1 (.t 1), none, 196608, 0, []⟩,
   ⟨(some 8), .load 1 false (.t 7), none, 196864, 1, []⟩,
   ⟨(some 9), .faddr 1 (.t 3), none, 197120, 2, []⟩,
   ⟨none, .store 1 (.t 9) (.t 8), none, 197376, 3, []⟩])
 (.seq (.reg [⟨(some 10), .faddr 2 (.t 1), none, 262144, 0, []⟩,
   ⟨(some 11), .load 1 false (.t 10), none, 262400, 1, []⟩,
   ⟨(some 12), .faddr 2 (.t 3), none, 262656, 2, []⟩,
   ⟨none, .store 1 (.t 12) (.t 11), none, 262912, 3, []⟩])
 (.seq (.reg [⟨(some 13), .faddr 3 (.t 1), none, 327680, 0, []⟩,
   ⟨(some 14), .load 2 true (.t 13), none, 327936, 1, []⟩,
   ⟨(some 15), .call 42 [(.t 14)] true, none, 328192, 2, []⟩,
   ⟨(some 16), .faddr 3 (.t 3), none, 328448, 3, []⟩,
   ⟨none, .store 2 (.t 16) (.t 15), none, 328704, 4, []⟩])
 (.seq (.reg [⟨(some 17), .faddr 5 (.t 1), none, 393216, 0, []⟩,
   ⟨(some 18), .load 1 false (.t 17), none, 393472, 1, []⟩,
   ⟨(some 19), .faddr 5 (.t 3), none, 393728, 2, []⟩,
   ⟨none, .store 1 (.t 19) (.t 18), none, 393984, 3, []⟩])
 (.seq (.reg [⟨(some 20), .faddr 6 (.t 1), none, 458752, 0, []⟩,
   ⟨(some 21), .load 3 true (.t 20), none, 459008, 1, []⟩,
   ⟨(some 22), .call 33 [(.t 21)] true, none, 459264, 2, []⟩,
   ⟨(some 23), .faddr 6 (.t 3), none, 459520, 3, []⟩,
   ⟨none, .store 3 (.t 23) (.t 22), none, 459776, 4, []⟩])
 (.seq (.reg [⟨(some 24), .faddr 9 (.t 1), none, 524288, 0, []⟩,
   ⟨(some 25), .load 1 false (.t 24), none, 524544, 1, []⟩,
   ⟨(some 26), .faddr 9 (.t 3), none, 524800, 2, []⟩,
   ⟨none, .store 1 (.t 26) (.t 25), none, 525056, 3, []⟩])
 (.seq (.reg [⟨(some 27), .load 10 true (.t 3), none, 589824, 0, []⟩,
   ⟨none, .store 10 (.t 2) (.t 27), none, 590080, 1, []⟩])
 (.ret))))))))))⟩
/-- loop.example/g00849/impl.CallerOk -/
def F12 : F := ⟨1, 47, [.t 2],
 .seq (.reg [⟨(some 1), .box (.t 0), none, 0, 0, []⟩,
   ⟨(some 2), .mv (.k (.bool false)), none, 256, 1, []⟩])
 (.seq (.seq (.reg [⟨(some 3), .faddr 0 (.t 1), none, 65536, 0, []⟩,
   ⟨(some 4), .load 1 false (.t 3), none, 65792, 1, []⟩,
   ⟨(some 5), .call 43 [(.t 4)] true, none, 66048, 2, []⟩,
   ⟨(some 6), .not (.t 5), none, 66304, 3, []⟩,
   ⟨(some 7), .mv (.t 6), none, 66560, 4, []⟩,
   ⟨(some 8), .faddr 1 (.t 1), (some (some 7, false)), 66816, 5, []⟩,
   ⟨(some 9), .load 1 false (.t 8), (some (some 7, false)), 67072, 6, []⟩,
   ⟨(some 10), .call 44 [(.t 9), (.k (.int .i64 0)), (.k (.int .i64 1000))] true, (some (some 7, false)), 67328, 7, []⟩,
   ⟨(some 11), .not (.t 10), (some (some 7, false)), 67584, 8, []⟩,
   ⟨(some 12), .pick (.t 7) (.k (.bool true)) (.t 11), none, 67840, 9, []⟩,
   ⟨(some 13), .mv (.t 12), none, 68096, 10, []⟩,
   ⟨(some 14), .faddr 9 (.t 1), (some (some 13, false)), 68352, 11, []⟩,
   ⟨(some 15), .load 1 false (.t 14), (some (some 13, false)), 68608, 12, []⟩,
   ⟨(some 16), .call 44 [(.t 15), (.k (.int .i64 0)), (.k (.int .i64 1000))] true, (some (some 13, false)), 68864, 13, []⟩,
   ⟨(some 17), .not (.t 16), (some (some 13, false)), 69120, 14, []⟩,
   ⟨(some 18), .pick (.t 13) (.k (.bool true)) (.t 17), none, 69376, 15, []⟩])
 (.cond (.t 18)
  (.seq (.reg [⟨(some 2), .mv (.k (.bool false)), none, 131072, 0, []⟩])
  (.ret))
  (.skip)))
 (.seq (.seq (.reg [⟨(some 19), .faddr 2 (.t 1), none, 196608, 0, []⟩,
   ⟨(some 20), .load 1 false (.t 19), none, 196864, 1, []⟩])
 (.cond (.t 20)
  (.seq (.reg [⟨(some 21), .faddr 1 (.t 1), none, 262144, 0, []⟩,
    ⟨(some 22), .load 1 false (.t 21), none, 262400, 1, []⟩,
    ⟨(some 23), .bin .geq (.t 22) (.k (.int .i64 1)), none, 262656, 2, []⟩,
    ⟨(some 24), .mv (.t 23), none, 262912, 3, []⟩,
    ⟨(some 25), .faddr 3 (.t 1), (some (some 24, true)), 263168, 4, []⟩,
    ⟨(some 26), .load 2 true (.t 25), (some (some 24, true)), 263424, 5, []⟩,
    ⟨(some 27), .call 45 [(.t 26)] true, (some (some 24, true)), 263680, 6, []⟩,
    ⟨(some 28), .pick (.t 24) (.t 27) (.k (.bool false)), none, 263936, 7, []⟩,
    ⟨(some 29), .mv (.t 28), none, 264192, 8, []⟩,
    ⟨(some 30), .faddr 5 (.t 1), (some (some 29, true)), 264448, 9, []⟩,
    ⟨(some 31), .load 1 false (.t 30), (some (some 29, true)), 264704, 10, []⟩,
    ⟨(some 32), .call 46 [(.t 31)] true, (some (some 29, true)), 264960, 11, []⟩,
    ⟨(some 33), .pick (.t 29) (.t 32) (.k (.bool false)), none, 265216, 12, []⟩,
    ⟨(some 34), .mv (.t 33), none, 265472, 13, []⟩,
    ⟨(some 35), .call 48 [] true, (some (some 34, true)), 265728, 14, []⟩,
    ⟨(some 36), .faddr 6 (.t 1), (some (some 34, true)), 265984, 15, []⟩,
    ⟨(some 37), .load 3 true (.t 36), (some (some 34, true)), 266240, 16, []⟩,
    ⟨(some 38), .call 47 [(.t 35), (.t 37)] true, (some (some 34, true)), 266496, 17, []⟩,
    ⟨(some 39), .pick (.t 34) (.t 38) (.k (.bool false)), none, 266752, 18, []⟩,
    ⟨(some 2), .mv (.t 39), none, 267008, 19, []⟩])
  (.ret))
  (.skip)))
 (.seq (.reg [⟨(some 40), .load 10 true (.t 1), none, 327680, 0, []⟩,
   ⟨(some 41), .faddr 0 (.t 1), none, 327936, 1, []⟩,
   ⟨(some 42), .load 1 false (.t 41), none, 328192, 2, []⟩,
   ⟨(some 43), .faddr 1 (.t 1), none, 328448, 3, []⟩,
   ⟨(some 44), .load 1 false (.t 43), none, 328704, 4, []⟩,
   ⟨(some 45), .build [(.int .i64 0), (.int .i64 0), (.bool false), (.int .i64 0), (.int .i64 0), (.str ByteArray.empty), (.int .i64 0), (.int .i64 0), (.str ByteArray.empty), (.int .i64 0)] [(0, 1, (.t 42)), (1, 1, (.t 44))], none, 328960, 5, []⟩,
   ⟨(some 46), .eqv false true [.i, .i, .b, .i, .i, .s, .i, .i, .s, .i] (.t 40) (.t 45), none, 329216, 6, []⟩,
   ⟨(some 2), .mv (.t 46), none, 329472, 7, []⟩])
 (.ret))))⟩
/-- loop.example/g00849/spec.CallOf -/
def F13 : F := ⟨2, 30, [.cell 4 14 true],
 .seq (.reg [⟨(some 2), .box (.t 0), none, 0, 0, []⟩,
   ⟨(some 4), .alloc [(.int .i64 0), (.int .i64 0), (.int .i64 0), (.int .i64 0), (.str ByteArray.empty), (.int .i64 0), (.int .i64 0), (.str ByteArray.empty), (.int .i64 0), (.int .i64 0), (.int .i64 0), (.int .i64 0), (.int .i64 0), (.str ByteArray.empty)], none, 256, 1, []⟩])
 (.seq (.seq (.reg [⟨(some 5), .load 10 true (.t 2), none, 65536, 0, []⟩,
   ⟨(some 6), .call 10 [(.t 5)] true, none, 65792, 1, []⟩,
   ⟨(some 7), .not (.t 6), none, 66048, 2, []⟩,
   ⟨(some 8), .mv (.t 7), none, 66304, 3, []⟩,
   ⟨(some 9), .faddr 2 (.t 2), (some (some 8, false)), 66560, 4, []⟩,
   ⟨(some 10), .load 1 false (.t 9), (some (some 8, false)), 66816, 5, []⟩,
   ⟨(some 11), .not (.t 10), (some (some 8, false)), 67072, 6, []⟩,
   ⟨(some 12), .pick (.t 8) (.k (.bool true)) (.t 11), none, 67328, 7, []⟩,
   ⟨(some 13), .mv (.t 12), none, 67584, 8, []⟩,
   ⟨(some 14), .mv (.t 1), (some (some 13, false)), 67840, 9, []⟩,
   ⟨(some 15), .bin .lss (.t 14) (.k (.int .i64 1)), (some (some 13, false)), 68096, 10, []⟩,
   ⟨(some 16), .pick (.t 13) (.k (.bool true)) (.t 15), none, 68352, 11, []⟩])
 (.cond (.t 16)
  (.seq (.reg [⟨(some 17), .build [(.int .i64 0), (.int .i64 0), (.int .i64 0), (.int .i64 0), (.str ByteArray.empty), (.int .i64 0), (.int .i64 0), (.str ByteArray.empty), (.int .i64 0), (.int .i64 0), (.int .i64 0), (.int .i64 0), (.int .i64 0), (.str ByteArray.empty)] [], none, 131072, 0, []⟩,
    ⟨none, .store 14 (.t 4) (.t 17), none, 131328, 1, []⟩])
  (.ret))
  (.skip)))
 (.seq (.reg [⟨(some 18), .faddr 0 (.t 2), none, 196608, 0, []⟩,
   ⟨(some 19), .load 1 false (.t 18), none, 196864, 1, []⟩,
   ⟨(some 20), .faddr 1 (.t 2), none, 197120, 2, []⟩,
   ⟨(some 21), .load 1 false (.t 20), none, 197376, 3, []⟩,
   ⟨(some 22), .faddr 3 (.t 2), none, 197632, 4, []⟩,
   ⟨(some 23), .load 2 true (.t 22), none, 197888, 5, []⟩,
   ⟨(some 24), .faddr 5 (.t 2), none, 198144, 6, []⟩,
   ⟨(some 25), .load 1 false (.t 24), none, 198400, 7, []⟩,
   ⟨(some 26), .faddr 6 (.t 2), none, 198656, 8, []⟩,
   ⟨(some 27), .load 3 true (.t 26), none, 198912, 9, []⟩,
   ⟨(some 28), .mv (.t 1), none, 199168, 10, []⟩,
   ⟨(some 29), .build [(.int .i64 0), (.int .i64 0), (.int .i64 0), (.int .i64 0), (.str ByteArray.empty), (.int .i64 0), (.int .i64 0), (.str ByteArray.empty), (.int .i64 0), (.int .i64 0), (.int .i64 0), (.int .i64 0), (.int .i64 0), (.str ByteArray.empty)] [(0, 1, (.t 19)), (1, 1, (.t 21)), (2, 2, (.t 23)), (4, 1, (.t 25)), (5, 3, (.t 27)), (8, 1, (.t 28))], none, 199424, 11, []⟩,
   ⟨none, .store 14 (.t 4) (.t 29), none, 199680, 12, []⟩])
 (.ret)))⟩
/-- loop.example/g00849/impl.CallOf -/
def F14 : F := ⟨2, 30, [.cell 4 14 true],
 .seq (.reg [⟨(some 2), .box (.t 0), none, 0, 0, []⟩,
   ⟨(some 4), .alloc [(.int .i64 0), (.int .i64 0), (.int .i64 0), (.int .i64 0), (.str ByteArray.empty), (.int .i64 0), (.int .i64 0), (.str ByteArray.empty), (.int .i64 0), (.int .i64 0), (.int .i64 0), (.int .i64 0), (.int .i64 0), (.str ByteArray.empty)], none, 256, 1, []⟩])
 (.seq (.seq (.reg [⟨(some 5), .load 10 true (.t 2), none, 65536, 0, []⟩,
   ⟨(some 6), .call 12 [(.t 5)] true, none, 65792, 1, []⟩,
   ⟨(some 7), .not (.t 6), none, 66048, 2, []⟩,
   ⟨(some 8), .mv (.t 7), none, 66304, 3, []⟩,
   ⟨(some 9), .faddr 2 (.t 2), (some (some 8, false)), 66560, 4, []⟩,
   ⟨(some 10), .load 1 false (.t 9), (some (some 8, false)), 66816, 5, []⟩,
   ⟨(some 11), .not (.t 10), (some (some 8, false)), 67072, 6, []⟩,
   ⟨(some 12), .pick (.t 8) (.k (.bool true)) (.t 11), none, 67328, 7, []⟩,
   ⟨(some 13), .mv (.t 12), none, 67584, 8, []⟩,
   ⟨(some 14), .mv (.t 1), (some (some 13, false)), 67840, 9, []⟩,
   ⟨(some 15), .bin .lss (.t 14) (.k (.int .i64 1)), (some (some 13, false)), 68096, 10, []⟩,
   ⟨(some 16), .pick (.t 13) (.k (.bool true)) (.t 15), none, 68352, 11, []⟩])
 (.cond (.t 16)
  (.seq (.reg [⟨(some 17), .build [(.int .i64 0), (.int .i64 0), (.int .i64 0), (.int .i64 0), (.str ByteArray.empty), (.int .i64 0), (.int .i64 0), (.str ByteArray.empty), (.int .i64 0), (.int .i64 0), (.int .i64 0), (.int .i64 0), (.int .i64 0), (.str ByteArray.empty)] [], none, 131072, 0, []⟩,
    ⟨none, .store 14 (.t 4) (.t 17), none, 131328, 1, []⟩])
  (.ret))
  (.skip)))
 (.seq (.reg [⟨(some 18), .faddr 0 (.t 2), none, 196608, 0, []⟩,
   ⟨(some 19), .load 1 false (.t 18), none, 196864, 1, []⟩,
   ⟨(some 20), .faddr 1 (.t 2), none, 197120, 2, []⟩,
   ⟨(some 21), .load 1 false (.t 20), none, 197376, 3, []⟩,
   ⟨(some 22), .faddr 3 (.t 2), none, 197632, 4, []⟩,
   ⟨(some 23), .load 2 true (.t 22), none, 197888, 5, []⟩,
   ⟨(some 24), .faddr 5 (.t 2), none, 198144, 6, []⟩,
   ⟨(some 25), .load 1 false (.t 24), none, 198400, 7, []⟩,
   ⟨(some 26), .faddr 6 (.t 2), none, 198656, 8, []⟩,
   ⟨(some 27), .load 3 true (.t 26), none, 198912, 9, []⟩,
   ⟨(some 28), .mv (.t 1), none, 199168, 10, []⟩,
   ⟨(some 29), .build [(.int .i64 0), (.int .i64 0), (.int .i64 0), (.int .i64 0), (.str ByteArray.empty), (.int .i64 0), (.int .i64 0), (.str ByteArray.empty), (.int .i64 0), (.int .i64 0), (.int .i64 0), (.int .i64 0), (.int .i64 0), (.str ByteArray.empty)] [(0, 1, (.t 19)), (1, 1, (.t 21)), (2, 2, (.t 23)), (4, 1, (.t 25)), (5, 3, (.t 27)), (8, 1, (.t 28))], none, 199424, 11, []⟩,
   ⟨none, .store 14 (.t 4) (.t 29), none, 199680, 12, []⟩])
 (.ret)))⟩
/-- loop.example/g00849/laws.eqCall -/
def F15 : F := ⟨2, 58, [.t 4],
 .seq (.reg [⟨(some 2), .box (.t 0), none, 0, 0, []⟩,
   ⟨(some 3), .box (.t 1), none, 256, 1, []⟩,
   ⟨(some 4), .mv (.k (.bool false)), none, 512, 2, []⟩])
 (.seq (.seq (.reg [⟨(some 5), .faddr 0 (.t 2), none, 65536, 0, []⟩,
   ⟨(some 6), .load 1 false (.t 5), none, 65792, 1, []⟩,
   ⟨(some 7), .faddr 0 (.t 3), none, 66048, 2, []⟩,
   ⟨(some 8), .load 1 false (.t 7), none, 66304, 3, []⟩,
   ⟨(some 9), .bin .neq (.t 6) (.t 8), none, 66560, 4, []⟩])
 (.cond (.t 9)
  (.seq (.reg [⟨(some 4), .mv (.k (.bool false)), none, 131072, 0, []⟩])
  (.ret))
  (.skip)))
 (.seq (.seq (.reg [⟨(some 10), .faddr 1 (.t 2), none, 196608, 0, []⟩,
   ⟨(some 11), .load 1 false (.t 10), none, 196864, 1, []⟩,
   ⟨(some 12), .faddr 1 (.t 3), none, 197120, 2, []⟩,
   ⟨(some 13), .load 1 false (.t 12), none, 197376, 3, []⟩,
   ⟨(some 14), .bin .neq (.t 11) (.t 13), none, 197632, 4, []⟩])
 (.cond (.t 14)
  (.seq (.reg [⟨(some 4), .mv (.k (.bool false)), none, 262144, 0, []⟩])
  (.ret))
  (.skip)))
 (.seq (.seq (.reg [⟨(some 15), .faddr 2 (.t 2), none, 327680, 0, []⟩,
   ⟨(some 16), .load 2 true (.t 15), none, 327936, 1, []⟩,
   ⟨(some 17), .faddr 2 (.t 3), none, 328192, 2, []⟩,
   ⟨(some 18), .load 2 true (.t 17), none, 328448, 3, []⟩,
   ⟨(some 19), .call 49 [(.t 16), (.t 18)] true, none, 328704, 4, []⟩,
   ⟨(some 20), .not (.t 19), none, 328960, 5, []⟩])
 (.cond (.t 20)
  (.seq (.reg [⟨(some 4), .mv (.k (.bool false)), none, 393216, 0, []⟩])
  (.ret))
  (.skip)))
 (.seq (.seq (.reg [⟨(some 21), .faddr 4 (.t 2), none, 458752, 0, []⟩,
   ⟨(some 22), .load 1 false (.t 21), none, 459008, 1, []⟩,
   ⟨(some 23), .faddr 4 (.t 3), none, 459264, 2, []⟩,
   ⟨(some 24), .load 1 false (.t 23), none, 459520, 3, []⟩,
   ⟨(some 25), .bin .neq (.t 22) (.t 24), none, 459776, 4, []⟩])
 (.cond (.t 25)
  (.seq (.reg [⟨(some 4), .mv (.k (.bool false)), none, 524288, 0, []⟩])
  (.ret))
  (.skip)))
 (.seq (.seq (.reg [⟨(some 26), .faddr 5 (.t 2), none, 589824, 0, []⟩,
   ⟨(some 27), .load 3 true (.t 26), none, 590080, 1, []⟩,
   ⟨(some 28), .faddr 5 (.t 3), none, 590336, 2, []⟩,
   ⟨(some 29), .load 3 true (.t 28), none, 590592, 3, []⟩,
   ⟨(some 30), .call 50 [(.t 27), (.t 29)] true, none, 590848, 4, []⟩,
   ⟨(some 31), .not (.t 30), none, 591104, 5, []⟩])
 (.cond (.t 31)
  (.seq (.reg [⟨(some 4), .mv (.k (.bool false)), none, 655360, 0, []⟩])
  (.ret))
  (.skip)))
 (.seq (.seq (.reg [⟨(some 32), .faddr 8 (.t 2), none, 720896, 0, []⟩,
   ⟨(some 33), .load 1 false (.t 32), none, 721152, 1, []⟩,
   ⟨(some 34), .faddr 8 (.t 3), none, 721408, 2, []⟩,
   ⟨(some 35), .load 1 false (.t 34), none, 721664, 3, []⟩,
   ⟨(some 36), .bin .neq (.t 33) (.t 35), none, 721920, 4, []⟩])
 (.cond (.t 36)
  (.seq (.reg [⟨(some 4), .mv (.k (.bool false)), none, 786432, 0, []⟩])
  (.ret))
  (.skip)))
 (.seq (.seq (.reg [⟨(some 37), .faddr 9 (.t 2), none, 851968, 0, []⟩,
   ⟨(some 38), .load 1 false (.t 37), none, 852224, 1, []⟩,
   ⟨(some 39), .faddr 9 (.t 3), none, 852480, 2, []⟩,
   ⟨(some 40), .load 1 false (.t 39), none, 852736, 3, []⟩,
   ⟨(some 41), .bin .neq (.t 38) (.t 40), none, 852992, 4, []⟩])
 (.cond (.t 41)
  (.seq (.reg [⟨(some 4), .mv (.k (.bool false)), none, 917504, 0, []⟩])
  (.ret))
  (.skip)))
 (.seq (.seq (.reg [⟨(some 42), .faddr 10 (.t 2), none, 983040, 0, []⟩,
   ⟨(some 43), .load 1 false (.t 42), none, 983296, 1, []⟩,
   ⟨(some 44), .faddr 10 (.t 3), none, 983552, 2, []⟩,
   ⟨(some 45), .load 1 false (.t 44), none, 983808, 3, []⟩,
   ⟨(some 46), .bin .neq (.t 43) (.t 45), none, 984064, 4, []⟩])
 (.cond (.t 46)
  (.seq (.reg [⟨(some 4), .mv (.k (.bool false)), none, 1048576, 0, []⟩])
  (.ret))
  (.skip)))
 (.seq (.seq (.reg [⟨(some 47), .faddr 11 (.t 2), none, 1114112, 0, []⟩,
   ⟨(some 48), .load 2 true (.t 47), none, 1114368, 1, []⟩,
   ⟨(some 49), .faddr 11 (.t 3), none, 1114624, 2, []⟩,
   ⟨(some 50), .load 2 true (.t 49), none, 1114880, 3, []⟩,
   ⟨(some 51), .call 51 [(.t 48), (.t 50)] true, none, 1115136, 4, []⟩,
   ⟨(some 52), .not (.t 51), none, 1115392, 5, []⟩])
 (.cond (.t 52)
  (.seq (.reg [⟨(some 4), .mv (.k (.bool false)), none, 1179648, 0, []⟩])
  (.ret))
  (.skip)))
 (.seq (.seq (.reg [⟨(some 53), .faddr 13 (.t 2), none, 1245184, 0, []⟩,
   ⟨(some 54), .load 1 false (.t 53), none, 1245440, 1, []⟩,
   ⟨(some 55), .faddr 13 (.t 3), none, 1245696, 2, []⟩,
   ⟨(some 56), .load 1 false (.t 55), none, 1245952, 3, []⟩,
   ⟨(some 57), .bin .neq (.t 54) (.t 56), none, 1246208, 4, []⟩])
 (.cond (.t 57)
  (.seq (.reg [⟨(some 4), .mv (.k (.bool false)), none, 1310720, 0, []⟩])
  (.ret))
  (.skip)))
 (.seq (.reg [⟨(some 4), .mv (.k (.bool true)), none, 1376256, 0, []⟩])
 (.ret))))))))))))⟩
/-- loop.example/g00849/laws.szOp -/
def F30 : F := ⟨2, 13, [.t 4],
 .seq (.reg [⟨(some 2), .box (.t 0), none, 0, 0, []⟩,
   ⟨(some 4), .mv (.k (.int .i64 0)), none, 256, 1, []⟩])
 (.seq (.reg [⟨(some 5), .mv (.t 1), none, 65536, 0, []⟩,
   ⟨(some 6), .faddr 2 (.t 2), none, 65792, 1, []⟩,
   ⟨(some 7), .load 1 false (.t 6), none, 66048, 2, []⟩,
   ⟨(some 8), .len true (.t 7), none, 66304, 3, []⟩,
   ⟨(some 9), .bin .sub (.t 5) (.t 8), none, 66560, 4, []⟩,
   ⟨(some 1), .mv (.t 9), none, 66816, 5, []⟩])
 (.seq (.seq (.reg [⟨(some 10), .mv (.t 1), none, 131072, 0, []⟩,
   ⟨(some 11), .bin .lss (.t 10) (.k (.int .i64 0)), none, 131328, 1, []⟩])
 (.cond (.t 11)
  (.seq (.reg [⟨(some 4), .mv (.k (.int .i64 (-1))), none, 196608, 0, []⟩])
  (.ret))
  (.skip)))
 (.seq (.reg [⟨(some 12), .mv (.t 1), none, 262144, 0, []⟩,
   ⟨(some 4), .mv (.t 12), none, 262400, 1, []⟩])
 (.ret))))⟩
/-- loop.example/g00849/spec.ClientAsk -/
def F31 : F := ⟨4, 58, [.cell 8 10 true, .t 9],
 .seq (.reg [⟨(some 4), .box (.t 0), none, 0, 0, []⟩,
   ⟨(some 5), .box (.t 1), none, 256, 1, []⟩,
   ⟨(some 7), .box (.t 3), none, 512, 2, []⟩,
   ⟨(some 8), .alloc [(.int .i64 0), (.int .i64 0), (.bool false), (.int .i64 0), (.int .i64 0), (.str ByteArray.empty), (.int .i64 0), (.int .i64 0), (.str ByteArray.empty), (.int .i64 0)], none, 768, 3, []⟩,
   ⟨(some 9), .mv (.k (.int .i64 0)), none, 1024, 4, []⟩])
 (.seq (.block 0 (.seq (.reg [⟨(some 13), .load 10 true (.t 4), none, 65536, 0, []⟩,
   ⟨(some 14), .call 10 [(.t 13)] true, none, 65792, 1, []⟩,
   ⟨(some 15), .not (.t 14), none, 66048, 2, []⟩,
   ⟨(some 16), .mv (.t 15), none, 66304, 3, []⟩,
   ⟨(some 17), .load 6 true (.t 5), (some (some 16, false)), 66560, 4, []⟩,
   ⟨(some 18), .call 69 [(.t 17)] true, (some (some 16, false)), 66816, 5, []⟩,
   ⟨(some 19), .not (.t 18), (some (some 16, false)), 67072, 6, []⟩,
   ⟨(some 20), .pick (.t 16) (.k (.bool true)) (.t 19), none, 67328, 7, []⟩,
   ⟨(some 21), .mv (.t 20), none, 67584, 8, []⟩,
   ⟨(some 22), .mv (.t 2), (some (some 21, false)), 67840, 9, []⟩,
   ⟨(some 23), .call 39 [(.t 22)] true, (some (some 21, false)), 68096, 10, []⟩,
   ⟨(some 24), .not (.t 23), (some (some 21, false)), 68352, 11, []⟩,
   ⟨(some 25), .pick (.t 21) (.k (.bool true)) (.t 24), none, 68608, 12, []⟩,
   ⟨(some 26), .mv (.t 25), none, 68864, 13, []⟩,
   ⟨(some 27), .faddr 1 (.t 5), (some (some 26, false)), 69120, 14, []⟩,
   ⟨(some 28), .load 2 true (.t 27), (some (some 26, false)), 69376, 15, []⟩,
   ⟨(some 29), .load 3 true (.t 7), (some (some 26, false)), 69632, 16, []⟩,
   ⟨(some 30), .call 40 [(.t 28), (.t 29)] true, (some (some 26, false)), 69888, 17, []⟩,
   ⟨(some 31), .not (.t 30), (some (some 26, false)), 70144, 18, []⟩,
   ⟨(some 32), .pick (.t 26) (.k (.bool true)) (.t 31), none, 70400, 19, []⟩,
   ⟨(some 12), .mv (.t 32), none, 70656, 20, []⟩])
 (.cond (.t 12)
  (.seq (.reg [⟨(some 33), .build [(.int .i64 0), (.int .i64 0), (.bool false), (.int .i64 0), (.int .i64 0), (.str ByteArray.empty), (.int .i64 0), (.int .i64 0), (.str ByteArray.empty), (.int .i64 0)] [], none, 131072, 0, []⟩,
    ⟨none, .store 10 (.t 8) (.t 33), none, 131328, 1, []⟩,
    ⟨(some 9), .mv (.k (.int .i64 1)), none, 131584, 2, []⟩])
  (.ret))
  (.seq (.reg [⟨(some 35), .faddr 2 (.t 4), none, 196608, 0, []⟩,
    ⟨(some 36), .load 1 false (.t 35), none, 196864, 1, []⟩,
    ⟨(some 34), .mv (.t 36), none, 197120, 2, []⟩])
  (.cond (.t 34)
   (.seq (.reg [⟨(some 37), .build [(.int .i64 0), (.int .i64 0), (.bool false), (.int .i64 0), (.int .i64 0), (.str ByteArray.empty), (.int .i64 0), (.int .i64 0), (.str ByteArray.empty), (.int .i64 0)] [], none, 262144, 0, []⟩,
     ⟨none, .store 10 (.t 8) (.t 37), none, 262400, 1, []⟩,
     ⟨(some 9), .mv (.k (.int .i64 5)), none, 262656, 2, []⟩])
   (.ret))
   (.seq (.reg [⟨(some 39), .faddr 1 (.t 4), none, 327680, 0, []⟩,
     ⟨(some 40), .load 1 false (.t 39), none, 327936, 1, []⟩,
     ⟨(some 41), .bin .geq (.t 40) (.k (.int .i64 1000)), none, 328192, 2, []⟩,
     ⟨(some 38), .mv (.t 41), none, 328448, 3, []⟩])
   (.cond (.t 38)
    (.seq (.reg [⟨(some 42), .build [(.int .i64 0), (.int .i64 0), (.bool false), (.int .i64 0), (.int .i64 0), (.str ByteArray.empty), (.int .i64 0), (.int .i64 0), (.str ByteArray.empty), (.int .i64 0)] [], none, 393216, 0, []⟩,
      ⟨none, .store 10 (.t 8) (.t 42), none, 393472, 1, []⟩,
      ⟨(some 9), .mv (.k (.int .i64 4)), none, 393728, 2, []⟩])
    (.ret))
    (.skip))))))))
 (.seq (.reg [⟨(some 44), .load 6 true (.t 5), none, 458752, 0, []⟩,
   ⟨(some 45), .mv (.t 2), none, 459008, 1, []⟩,
   ⟨(some 46), .call 70 [(.t 44), (.t 45)] true, none, 459264, 2, []⟩,
   ⟨(some 43), .mv (.t 46), none, 459520, 3, []⟩,
   ⟨(some 47), .ext (.t 43) 0, none, 459776, 4, []⟩,
   ⟨(some 48), .ext (.t 43) 1, none, 460032, 5, []⟩,
   ⟨(some 10), .alloc [(.int .i64 0), (.int .i64 0)], none, 460288, 6, []⟩,
   ⟨none, .store 2 (.t 10) (.t 47), none, 460544, 7, []⟩,
   ⟨(some 11), .mv (.t 48), none, 460800, 8, []⟩])
 (.seq (.reg [⟨(some 49), .faddr 0 (.t 4), none, 524288, 0, []⟩,
   ⟨(some 50), .load 1 false (.t 49), none, 524544, 1, []⟩,
   ⟨(some 51), .faddr 1 (.t 4), none, 524800, 2, []⟩,
   ⟨(some 52), .load 1 false (.t 51), none, 525056, 3, []⟩,
   ⟨(some 53), .bin .add (.t 52) (.k (.int .i64 1)), none, 525312, 4, []⟩,
   ⟨(some 54), .load 2 true (.t 10), none, 525568, 5, []⟩,
   ⟨(some 55), .mv (.t 2), none, 525824, 6, []⟩,
   ⟨(some 56), .load 3 true (.t 7), none, 526080, 7, []⟩,
   ⟨(some 57), .build [(.int .i64 0), (.int .i64 0), (.bool false), (.int .i64 0), (.int .i64 0), (.str ByteArray.empty), (.int .i64 0), (.int .i64 0), (.str ByteArray.empty), (.int .i64 0)] [(0, 1, (.t 50)), (1, 1, (.t 53)), (2, 1, (.k (.bool true))), (3, 2, (.t 54)), (5, 1, (.t 55)), (6, 3, (.t 56))], none, 526336, 8, []⟩,
   ⟨none, .store 10 (.t 8) (.t 57), none, 526592, 9, []⟩,
   ⟨(some 9), .mv (.k (.int .i64 0)), none, 526848, 10, []⟩])
 (.ret))))⟩
/-- loop.example/g00849/laws.toPool -/
def F32 : F := ⟨1, 21, [.cell 2 6 true],
 .seq (.reg [⟨(some 1), .box (.t 0), none, 0, 0, []⟩,
   ⟨(some 2), .alloc [(.int .i64 0), (.int .i64 0), (.int .i64 0), (.int .i64 0), (.int .i64 0), (.int .i64 0)], none, 256, 1, []⟩])
 (.seq (.reg [⟨(some 3), .alloc [(.int .i64 0), (.int .i64 0), (.int .i64 0), (.int .i64 0), (.int .i64 0), (.int .i64 0)], none, 65536, 0, []⟩])
 (.seq (.reg [⟨(some 4), .faddr 0 (.t 1), none, 131072, 0, []⟩,
   ⟨(some 5), .load 1 false (.t 4), none, 131328, 1, []⟩,
   ⟨(some 6), .faddr 0 (.t 3), none, 131584, 2, []⟩,
   ⟨none, .store 1 (.t 6) (.t 5), none, 131840, 3, []⟩])
 (.seq (.reg [⟨(some 7), .faddr 1 (.t 1), none, 196608, 0, []⟩,
   ⟨(some 8), .load 2 true (.t 7), none, 196864, 1, []⟩,
   ⟨(some 9), .call 71 [(.t 8)] true, none, 197120, 2, []⟩,
   ⟨(some 10), .faddr 1 (.t 3), none, 197376, 3, []⟩,
   ⟨none, .store 2 (.t 10) (.t 9), none, 197632, 4, []⟩])
 (.seq (.reg [⟨(some 11), .faddr 3 (.t 1), none, 262144, 0, []⟩,
   ⟨(some 12), .load 1 false (.t 11), none, 262400, 1, []⟩,
   ⟨(some 13), .faddr 3 (.t 3), none, 262656, 2, []⟩,
   ⟨none, .store 1 (.t 13) (.t 12), none, 262912, 3, []⟩])
 (.seq (.reg [⟨(some 14), .faddr 4 (.t 1), none, 327680, 0, []⟩,
   ⟨(some 15), .load 1 false (.t 14), none, 327936, 1, []⟩,
   ⟨(some 16), .faddr 4 (.t 3), none, 328192, 2, []⟩,
   ⟨none, .store 1 (.t 16) (.t 15), none, 328448, 3, []⟩])
 (.seq (.reg [⟨(some 17), .faddr 5 (.t 1), none, 393216, 0, []⟩,
   ⟨(some 18), .load 1 false (.t 17), none, 393472, 1, []⟩,
   ⟨(some 19), .faddr 5 (.t 3), none, 393728, 2, []⟩,
   ⟨none, .store 1 (.t 19) (.t 18), none, 393984, 3, []⟩])
 (.seq (.reg [⟨(some 20), .load 6 true (.t 3), none, 458752, 0, []⟩,
   ⟨none, .store 6 (.t 2) (.t 20), none, 459008, 1, []⟩])
 (.ret))))))))⟩
/-- loop.example/g00849/laws.toOp -/
def F33 : F := ⟨1, 14, [.cell 2 3 true],
 .seq (.reg [⟨(some 1), .box (.t 0), none, 0, 0, []⟩,
   ⟨(some 2), .alloc [(.int .i64 0), (.int .i64 0), (.str ByteArray.empty)], none, 256, 1, []⟩])
 (.seq (.reg [⟨(some 3), .alloc [(.int .i64 0), (.int .i64 0), (.str ByteArray.empty)], none, 65536, 0, []⟩])
 (.seq (.reg [⟨(some 4), .faddr 0 (.t 1), none, 131072, 0, []⟩,
   ⟨(some 5), .load 1 false (.t 4), none, 131328, 1, []⟩,
   ⟨(some 6), .faddr 0 (.t 3), none, 131584, 2, []⟩,
   ⟨none, .store 1 (.t 6) (.t 5), none, 131840, 3, []⟩])
 (.seq (.reg [⟨(some 7), .faddr 1 (.t 1), none, 196608, 0, []⟩,
   ⟨(some 8), .load 1 false (.t 7), none, 196864, 1, []⟩,
   ⟨(some 9), .faddr 1 (.t 3), none, 197120, 2, []⟩,
   ⟨none, .store 1 (.t 9) (.t 8), none, 197376, 3, []⟩])
 (.seq (.reg [⟨(some 10), .faddr 2 (.t 1), none, 262144, 0, []⟩,
   ⟨(some 11), .load 1 false (.t 10), none, 262400, 1, []⟩,
   ⟨(some 12), .faddr 2 (.t 3), none, 262656, 2, []⟩,
   ⟨none, .store 1 (.t 12) (.t 11), none, 262912, 3, []⟩])
 (.seq (.reg [⟨(some 13), .load 3 true (.t 3), none, 327680, 0, []⟩,
   ⟨none, .store 3 (.t 2) (.t 13), none, 327936, 1, []⟩])
 (.ret))))))⟩
/-- loop.example/g00849/impl.ClientAsk -/
def F34 : F := ⟨4, 52, [.cell 8 10 true, .t 9],
 .seq (.reg [⟨(some 4), .box (.t 0), none, 0, 0, []⟩,
   ⟨(some 5), .box (.t 1), none, 256, 1, []⟩,
   ⟨(some 7), .box (.t 3), none, 512, 2, []⟩,
   ⟨(some 8), .alloc [(.int .i64 0), (.int .i64 0), (.bool false), (.int .i64 0), (.int .i64 0), (.str ByteArray.empty), (.int .i64 0), (.int .i64 0), (.str ByteArray.empty), (.int .i64 0)], none, 768, 3, []⟩,
   ⟨(some 9), .mv (.k (.int .i64 0)), none, 1024, 4, []⟩])
 (.seq (.block 0 (.seq (.reg [⟨(some 11), .load 10 true (.t 4), none, 65536, 0, []⟩,
   ⟨(some 12), .call 12 [(.t 11)] true, none, 65792, 1, []⟩,
   ⟨(some 13), .not (.t 12), none, 66048, 2, []⟩,
   ⟨(some 14), .mv (.t 13), none, 66304, 3, []⟩,
   ⟨(some 15), .load 6 true (.t 5), (some (some 14, false)), 66560, 4, []⟩,
   ⟨(some 16), .call 72 [(.t 15)] true, (some (some 14, false)), 66816, 5, []⟩,
   ⟨(some 17), .not (.t 16), (some (some 14, false)), 67072, 6, []⟩,
   ⟨(some 18), .pick (.t 14) (.k (.bool true)) (.t 17), none, 67328, 7, []⟩,
   ⟨(some 19), .mv (.t 18), none, 67584, 8, []⟩,
   ⟨(some 20), .mv (.t 2), (some (some 19, false)), 67840, 9, []⟩,
   ⟨(some 21), .call 46 [(.t 20)] true, (some (some 19, false)), 68096, 10, []⟩,
   ⟨(some 22), .not (.t 21), (some (some 19, false)), 68352, 11, []⟩,
   ⟨(some 23), .pick (.t 19) (.k (.bool true)) (.t 22), none, 68608, 12, []⟩,
   ⟨(some 24), .mv (.t 23), none, 68864, 13, []⟩,
   ⟨(some 25), .faddr 1 (.t 5), (some (some 24, false)), 69120, 14, []⟩,
   ⟨(some 26), .load 2 true (.t 25), (some (some 24, false)), 69376, 15, []⟩,
   ⟨(some 27), .load 3 true (.t 7), (some (some 24, false)), 69632, 16, []⟩,
   ⟨(some 28), .call 47 [(.t 26), (.t 27)] true, (some (some 24, false)), 69888, 17, []⟩,
   ⟨(some 29), .not (.t 28), (some (some 24, false)), 70144, 18, []⟩,
   ⟨(some 30), .pick (.t 24) (.k (.bool true)) (.t 29), none, 70400, 19, []⟩,
   ⟨(some 10), .mv (.t 30), none, 70656, 20, []⟩])
 (.cond (.t 10)
  (.seq (.reg [⟨(some 31), .build [(.int .i64 0), (.int .i64 0), (.bool false), (.int .i64 0), (.int .i64 0), (.str ByteArray.empty), (.int .i64 0), (.int .i64 0), (.str ByteArray.empty), (.int .i64 0)] [], none, 131072, 0, []⟩,
    ⟨none, .store 10 (.t 8) (.t 31), none, 131328, 1, []⟩,
    ⟨(some 9), .mv (.k (.int .i64 1)), none, 131584, 2, []⟩])
  (.ret))
  (.seq (.reg [⟨(some 33), .faddr 2 (.t 4), none, 196608, 0, []⟩,
    ⟨(some 34), .load 1 false (.t 33), none, 196864, 1, []⟩,
    ⟨(some 32), .mv (.t 34), none, 197120, 2, []⟩])
  (.cond (.t 32)
   (.seq (.reg [⟨(some 35), .build [(.int .i64 0), (.int .i64 0), (.bool false), (.int .i64 0), (.int .i64 0), (.str ByteArray.empty), (.int .i64 0), (.int .i64 0), (.str ByteArray.empty), (.int .i64 0)] [], none, 262144, 0, []⟩,
     ⟨none, .store 10 (.t 8) (.t 35), none, 262400, 1, []⟩,
     ⟨(some 9), .mv (.k (.int .i64 5)), none, 262656, 2, []⟩])
   (.ret))
   (.seq (.reg [⟨(some 37), .faddr 1 (.t 4), none, 327680, 0, []⟩,
     ⟨(some 38), .load 1 false (.t 37), none, 327936, 1, []⟩,
     ⟨(some 39), .bin .eql (.t 38) (.k (.int .i64 1000)), none, 328192, 2, []⟩,
     ⟨(some 36), .mv (.t 39), none, 328448, 3, []⟩])
   (.cond (.t 36)
    (.seq (.reg [⟨(some 40), .build [(.int .i64 0), (.int .i64 0), (.bool false), (.int .i64 0), (.int .i64 0), (.str ByteArray.empty), (.int .i64 0), (.int .i64 0), (.str ByteArray.empty), (.int .i64 0)] [], none, 393216, 0, []⟩,
      ⟨none, .store 10 (.t 8) (.t 40), none, 393472, 1, []⟩,
      ⟨(some 9), .mv (.k (.int .i64 4)), none, 393728, 2, []⟩])
    (.ret))
    (.skip))))))))
 (.seq (.reg [⟨(some 41), .faddr 0 (.t 4), none, 458752, 0, []⟩,
   ⟨(some 42), .load 1 false (.t 41), none, 459008, 1, []⟩,
   ⟨(some 43), .faddr 1 (.t 4), none, 459264, 2, []⟩,
   ⟨(some 44), .load 1 false (.t 43), none, 459520, 3, []⟩,
   ⟨(some 45), .bin .add (.t 44) (.k (.int .i64 1)), none, 459776, 4, []⟩,
   ⟨(some 46), .load 6 true (.t 5), none, 460032, 5, []⟩,
   ⟨(some 47), .mv (.t 2), none, 460288, 6, []⟩,
   ⟨(some 48), .call 73 [(.t 46), (.t 47)] true, none, 460544, 7, []⟩,
   ⟨(some 49), .mv (.t 2), none, 460800, 8, []⟩,
   ⟨(some 50), .load 3 true (.t 7), none, 461056, 9, []⟩,
   ⟨(some 51), .build [(.int .i64 0), (.int .i64 0), (.bool false), (.int .i64 0), (.int .i64 0), (.str ByteArray.empty), (.int .i64 0), (.int .i64 0), (.str ByteArray.empty), (.int .i64 0)] [(0, 1, (.t 42)), (1, 1, (.t 45)), (2, 1, (.k (.bool true))), (3, 2, (.t 48)), (5, 1, (.t 49)), (6, 3, (.t 50))], none, 461312, 10, []⟩,
   ⟨none, .store 10 (.t 8) (.t 51), none, 461568, 11, []⟩,
   ⟨(some 9), .mv (.k (.int .i64 0)), none, 461824, 12, []⟩])
 (.ret)))⟩
/-- loop.example/g00849/laws.eqClient -/
def F35 : F := ⟨2, 42, [.t 4],
 .seq (.reg [⟨(some 2), .box (.t 0), none, 0, 0, []⟩,
   ⟨(some 3), .box (.t 1), none, 256, 1, []⟩,
   ⟨(some 4), .mv (.k (.bool false)), none, 512, 2, []⟩])
 (.seq (.seq (.reg [⟨(some 5), .faddr 0 (.t 2), none, 65536, 0, []⟩,
   ⟨(some 6), .load 1 false (.t 5), none, 65792, 1, []⟩,
   ⟨(some 7), .faddr 0 (.t 3), none, 66048, 2, []⟩,
   ⟨(some 8), .load 1 false (.t 7), none, 66304, 3, []⟩,
   ⟨(some 9), .bin .neq (.t 6) (.t 8), none, 66560, 4, []⟩])
 (.cond (.t 9)
  (.seq (.reg [⟨(some 4), .mv (.k (.bool false)), none, 131072, 0, []⟩])
  (.ret))
  (.skip)))
 (.seq (.seq (.reg [⟨(some 10), .faddr 1 (.t 2), none, 196608, 0, []⟩,
   ⟨(some 11), .load 1 false (.t 10), none, 196864, 1, []⟩,
   ⟨(some 12), .faddr 1 (.t 3), none, 197120, 2, []⟩,
   ⟨(some 13), .load 1 false (.t 12), none, 197376, 3, []⟩,
   ⟨(some 14), .bin .neq (.t 11) (.t 13), none, 197632, 4, []⟩])
 (.cond (.t 14)
  (.seq (.reg [⟨(some 4), .mv (.k (.bool false)), none, 262144, 0, []⟩])
  (.ret))
  (.skip)))
 (.seq (.seq (.reg [⟨(some 15), .faddr 2 (.t 2), none, 327680, 0, []⟩,
   ⟨(some 16), .load 1 false (.t 15), none, 327936, 1, []⟩,
   ⟨(some 17), .faddr 2 (.t 3), none, 328192, 2, []⟩,
   ⟨(some 18), .load 1 false (.t 17), none, 328448, 3, []⟩,
   ⟨(some 19), .eqv true false [.b] (.t 16) (.t 18), none, 328704, 4, []⟩])
 (.cond (.t 19)
  (.seq (.reg [⟨(some 4), .mv (.k (.bool false)), none, 393216, 0, []⟩])
  (.ret))
  (.skip)))
 (.seq (.seq (.reg [⟨(some 20), .faddr 3 (.t 2), none, 458752, 0, []⟩,
   ⟨(some 21), .load 2 true (.t 20), none, 459008, 1, []⟩,
   ⟨(some 22), .faddr 3 (.t 3), none, 459264, 2, []⟩,
   ⟨(some 23), .load 2 true (.t 22), none, 459520, 3, []⟩,
   ⟨(some 24), .call 49 [(.t 21), (.t 23)] true, none, 459776, 4, []⟩,
   ⟨(some 25), .not (.t 24), none, 460032, 5, []⟩])
 (.cond (.t 25)
  (.seq (.reg [⟨(some 4), .mv (.k (.bool false)), none, 524288, 0, []⟩])
  (.ret))
  (.skip)))
 (.seq (.seq (.reg [⟨(some 26), .faddr 5 (.t 2), none, 589824, 0, []⟩,
   ⟨(some 27), .load 1 false (.t 26), none, 590080, 1, []⟩,
   ⟨(some 28), .faddr 5 (.t 3), none, 590336, 2, []⟩,
   ⟨(some 29), .load 1 false (.t 28), none, 590592, 3, []⟩,
   ⟨(some 30), .bin .neq (.t 27) (.t 29), none, 590848, 4, []⟩])
 (.cond (.t 30)
  (.seq (.reg [⟨(some 4), .mv (.k (.bool false)), none, 655360, 0, []⟩])
  (.ret))
  (.skip)))
 (.seq (.seq (.reg [⟨(some 31), .faddr 6 (.t 2), none, 720896, 0, []⟩,
   ⟨(some 32), .load 3 true (.t 31), none, 721152, 1, []⟩,
   ⟨(some 33), .faddr 6 (.t 3), none, 721408, 2, []⟩,
   ⟨(some 34), .load 3 true (.t 33), none, 721664, 3, []⟩,
   ⟨(some 35), .call 50 [(.t 32), (.t 34)] true, none, 721920, 4, []⟩,
   ⟨(some 36), .not (.t 35), none, 722176, 5, []⟩])
 (.cond (.t 36)
  (.seq (.reg [⟨(some 4), .mv (.k (.bool false)), none, 786432, 0, []⟩])
  (.ret))
  (.skip)))
 (.seq (.seq (.reg [⟨(some 37), .faddr 9 (.t 2), none, 851968, 0, []⟩,
   ⟨(some 38), .load 1 false (.t 37), none, 852224, 1, []⟩,
   ⟨(some 39), .faddr 9 (.t 3), none, 852480, 2, []⟩,
   ⟨(some 40), .load 1 false (.t 39), none, 852736, 3, []⟩,
   ⟨(some 41), .bin .neq (.t 38) (.t 40), none, 852992, 4, []⟩])
 (.cond (.t 41)
  (.seq (.reg [⟨(some 4), .mv (.k (.bool false)), none, 917504, 0, []⟩])
  (.ret))
  (.skip)))
 (.seq (.reg [⟨(some 4), .mv (.k (.bool true)), none, 983040, 0, []⟩])
 (.ret)))))))))⟩
/-- loop.example/g00849/spec.l17Client -/
def F36 : F := ⟨1, 5, [.t 2],
 .seq (.reg [⟨(some 2), .mv (.k (.bool false)), none, 0, 0, []⟩])
 (.seq (.reg [⟨(some 3), .mv (.t 0), none, 65536, 0, []⟩,
   ⟨(some 4), .call 37 [(.t 3), (.k (.int .i64 100)), (.k (.int .i64 105))] true, none, 65792, 1, []⟩,
   ⟨(some 2), .mv (.t 4), none, 66048, 2, []⟩])
 (.ret))⟩
/-- loop.example/g00849/spec.l00In -/
def F37 : F := ⟨3, 15, [.t 6],
 .seq (.reg [⟨(some 6), .mv (.k (.bool false)), none, 0, 0, []⟩])
 (.seq (.reg [⟨(some 7), .mv (.t 0), none, 65536, 0, []⟩,
   ⟨(some 8), .mv (.t 1), none, 65792, 1, []⟩,
   ⟨(some 9), .bin .geq (.t 7) (.t 8), none, 66048, 2, []⟩,
   ⟨(some 10), .mv (.t 9), none, 66304, 3, []⟩,
   ⟨(some 11), .mv (.t 0), (some (some 10, true)), 66560, 4, []⟩,
   ⟨(some 12), .mv (.t 2), (some (some 10, true)), 66816, 5, []⟩,
   ⟨(some 13), .bin .leq (.t 11) (.t 12), (some (some 10, true)), 67072, 6, []⟩,
   ⟨(some 14), .pick (.t 10) (.t 13) (.k (.bool false)), none, 67328, 7, []⟩,
   ⟨(some 6), .mv (.t 14), none, 67584, 8, []⟩])
 (.ret))⟩
/-- loop.example/g00849/spec.l17Pg -/
def F38 : F := ⟨1, 11, [.t 2],
 .seq (.reg [⟨(some 1), .box (.t 0), none, 0, 0, []⟩,
   ⟨(some 2), .mv (.k (.bool false)), none, 256, 1, []⟩])
 (.seq (.reg [⟨(some 3), .faddr 0 (.t 1), none, 65536, 0, []⟩,
   ⟨(some 4), .load 1 false (.t 3), none, 65792, 1, []⟩,
   ⟨(some 5), .call 37 [(.t 4), (.k (.int .i64 1)), (.k (.int .i64 4))] true, none, 66048, 2, []⟩,
   ⟨(some 6), .mv (.t 5), none, 66304, 3, []⟩,
   ⟨(some 7), .faddr 1 (.t 1), (some (some 6, true)), 66560, 4, []⟩,
   ⟨(some 8), .load 1 false (.t 7), (some (some 6, true)), 66816, 5, []⟩,
   ⟨(some 9), .call 37 [(.t 8), (.k (.int .i64 0)), (.k (.int .i64 15))] true, (some (some 6, true)), 67072, 6, []⟩,
   ⟨(some 10), .pick (.t 6) (.t 9) (.k (.bool false)), none, 67328, 7, []⟩,
   ⟨(some 2), .mv (.t 10), none, 67584, 8, []⟩])
 (.ret))⟩
/-- loop.example/g00849/spec.NameOk -/
def F39 : F := ⟨1, 5, [.t 2],
 .seq (.reg [⟨(some 2), .mv (.k (.bool false)), none, 0, 0, []⟩])
 (.seq (.reg [⟨(some 3), .mv (.t 0), none, 65536, 0, []⟩,
   ⟨(some 4), .call 74 [(.t 3)] true, none, 65792, 1, []⟩,
   ⟨(some 2), .mv (.t 4), none, 66048, 2, []⟩])
 (.ret))⟩
/-- loop.example/g00849/spec.OpOk -/
def F40 : F := ⟨2, 75, [.t 4],
 .seq (.reg [⟨(some 2), .box (.t 0), none, 0, 0, []⟩,
   ⟨(some 3), .box (.t 1), none, 256, 1, []⟩,
   ⟨(some 4), .mv (.k (.bool false)), none, 512, 2, []⟩])
 (.seq (.seq (.reg [⟨(some 7), .load 2 true (.t 2), none, 65536, 0, []⟩,
   ⟨(some 8), .call 75 [(.t 7)] true, none, 65792, 1, []⟩,
   ⟨(some 9), .not (.t 8), none, 66048, 2, []⟩])
 (.cond (.t 9)
  (.seq (.reg [⟨(some 4), .mv (.k (.bool false)), none, 131072, 0, []⟩])
  (.ret))
  (.skip)))
 (.seq (.reg [⟨(some 10), .faddr 2 (.t 3), none, 196608, 0, []⟩,
   ⟨(some 11), .load 1 false (.t 10), none, 196864, 1, []⟩,
   ⟨(some 12), .len true (.t 11), none, 197120, 2, []⟩,
   ⟨(some 13), .bin .leq (.t 12) (.k (.int .i64 64)), none, 197376, 3, []⟩,
   ⟨(some 14), .faddr 1 (.t 3), none, 197632, 4, []⟩,
   ⟨(some 15), .load 1 false (.t 14), none, 197888, 5, []⟩,
   ⟨(some 16), .call 37 [(.t 15), (.k (.int .i64 0)), (.k (.int .i64 64))] true, none, 198144, 6, []⟩,
   ⟨(some 5), .mv (.t 13), none, 198400, 7, []⟩,
   ⟨(some 6), .mv (.t 16), none, 198656, 8, []⟩])
 (.seq (.seq (.reg [⟨(some 17), .faddr 0 (.t 3), none, 262144, 0, []⟩,
   ⟨(some 18), .load 1 false (.t 17), none, 262400, 1, []⟩])
 (.block 0 (.seq (.seq (.reg [⟨(some 20), .bin .eql (.t 18) (.k (.int .i64 1)), none, 327680, 0, []⟩,
   ⟨(some 19), .mv (.t 20), none, 327936, 1, []⟩])
 (.cond (.t 19)
  (.skip)
  (.reg [⟨(some 21), .bin .eql (.t 18) (.k (.int .i64 6)), none, 393216, 0, []⟩,
    ⟨(some 19), .mv (.t 21), none, 393472, 1, []⟩])))
 (.cond (.t 19)
  (.seq (.reg [⟨(some 22), .faddr 1 (.t 3), none, 458752, 0, []⟩,
    ⟨(some 23), .load 1 false (.t 22), none, 459008, 1, []⟩,
    ⟨(some 24), .bin .eql (.t 23) (.k (.int .i64 0)), none, 459264, 2, []⟩,
    ⟨(some 25), .mv (.t 24), none, 459520, 3, []⟩,
    ⟨(some 26), .faddr 2 (.t 3), (some (some 25, true)), 459776, 4, []⟩,
    ⟨(some 27), .load 1 false (.t 26), (some (some 25, true)), 460032, 5, []⟩,
    ⟨(some 28), .bin .eql (.t 27) (.k (.str ByteArray.empty)), (some (some 25, true)), 460288, 6, []⟩,
    ⟨(some 29), .pick (.t 25) (.t 28) (.k (.bool false)), none, 460544, 7, []⟩,
    ⟨(some 4), .mv (.t 29), none, 460800, 8, []⟩])
  (.ret))
  (.seq (.reg [⟨(some 31), .bin .eql (.t 18) (.k (.int .i64 2)), none, 524288, 0, []⟩,
    ⟨(some 30), .mv (.t 31), none, 524544, 1, []⟩])
  (.cond (.t 30)
   (.seq (.reg [⟨(some 32), .faddr 1 (.t 3), none, 589824, 0, []⟩,
     ⟨(some 33), .load 1 false (.t 32), none, 590080, 1, []⟩,
     ⟨(some 34), .bin .eql (.t 33) (.k (.int .i64 0)), none, 590336, 2, []⟩,
     ⟨(some 35), .mv (.t 34), none, 590592, 3, []⟩,
     ⟨(some 36), .mv (.t 5), (some (some 35, true)), 590848, 4, []⟩,
     ⟨(some 37), .pick (.t 35) (.t 36) (.k (.bool false)), none, 591104, 5, []⟩,
     ⟨(some 4), .mv (.t 37), none, 591360, 6, []⟩])
   (.ret))
   (.seq (.reg [⟨(some 39), .bin .eql (.t 18) (.k (.int .i64 3)), none, 655360, 0, []⟩,
     ⟨(some 38), .mv (.t 39), none, 655616, 1, []⟩])
   (.cond (.t 38)
    (.seq (.reg [⟨(some 40), .faddr 0 (.t 2), none, 720896, 0, []⟩,
      ⟨(some 41), .load 1 false (.t 40), none, 721152, 1, []⟩,
      ⟨(some 42), .bin .eql (.t 41) (.k (.int .i64 1)), none, 721408, 2, []⟩,
      ⟨(some 43), .mv (.t 42), none, 721664, 3, []⟩,
      ⟨(some 44), .mv (.t 6), (some (some 43, true)), 721920, 4, []⟩,
      ⟨(some 45), .pick (.t 43) (.t 44) (.k (.bool false)), none, 722176, 5, []⟩,
      ⟨(some 46), .mv (.t 45), none, 722432, 6, []⟩,
      ⟨(some 47), .mv (.t 5), (some (some 46, true)), 722688, 7, []⟩,
      ⟨(some 48), .pick (.t 46) (.t 47) (.k (.bool false)), none, 722944, 8, []⟩,
      ⟨(some 4), .mv (.t 48), none, 723200, 9, []⟩])
    (.ret))
    (.seq (.reg [⟨(some 50), .bin .eql (.t 18) (.k (.int .i64 4)), none, 786432, 0, []⟩,
      ⟨(some 49), .mv (.t 50), none, 786688, 1, []⟩])
    (.cond (.t 49)
     (.seq (.reg [⟨(some 51), .faddr 0 (.t 2), none, 851968, 0, []⟩,
       ⟨(some 52), .load 1 false (.t 51), none, 852224, 1, []⟩,
       ⟨(some 53), .bin .eql (.t 52) (.k (.int .i64 1)), none, 852480, 2, []⟩,
       ⟨(some 54), .mv (.t 53), none, 852736, 3, []⟩,
       ⟨(some 55), .faddr 1 (.t 3), (some (some 54, true)), 852992, 4, []⟩,
       ⟨(some 56), .load 1 false (.t 55), (some (some 54, true)), 853248, 5, []⟩,
       ⟨(some 57), .bin .eql (.t 56) (.k (.int .i64 0)), (some (some 54, true)), 853504, 6, []⟩,
       ⟨(some 58), .pick (.t 54) (.t 57) (.k (.bool false)), none, 853760, 7, []⟩,
       ⟨(some 59), .mv (.t 58), none, 854016, 8, []⟩,
       ⟨(some 60), .mv (.t 5), (some (some 59, true)), 854272, 9, []⟩,
       ⟨(some 61), .pick (.t 59) (.t 60) (.k (.bool false)), none, 854528, 10, []⟩,
       ⟨(some 4), .mv (.t 61), none, 854784, 11, []⟩])
     (.ret))
     (.seq (.reg [⟨(some 63), .bin .eql (.t 18) (.k (.int .i64 5)), none, 917504, 0, []⟩,
       ⟨(some 62), .mv (.t 63), none, 917760, 1, []⟩])
     (.cond (.t 62)
      (.seq (.reg [⟨(some 64), .faddr 0 (.t 2), none, 983040, 0, []⟩,
        ⟨(some 65), .load 1 false (.t 64), none, 983296, 1, []⟩,
        ⟨(some 66), .bin .eql (.t 65) (.k (.int .i64 1)), none, 983552, 2, []⟩,
        ⟨(some 67), .mv (.t 66), none, 983808, 3, []⟩,
        ⟨(some 68), .mv (.t 6), (some (some 67, true)), 984064, 4, []⟩,
        ⟨(some 69), .pick (.t 67) (.t 68) (.k (.bool false)), none, 984320, 5, []⟩,
        ⟨(some 70), .mv (.t 69), none, 984576, 6, []⟩,
        ⟨(some 71), .faddr 2 (.t 3), (some (some 70, true)), 984832, 7, []⟩,
        ⟨(some 72), .load 1 false (.t 71), (some (some 70, true)), 985088, 8, []⟩,
        ⟨(some 73), .bin .eql (.t 72) (.k (.str ByteArray.empty)), (some (some 70, true)), 985344, 9, []⟩,
        ⟨(some 74), .pick (.t 70) (.t 73) (.k (.bool false)), none, 985600, 10, []⟩,
        ⟨(some 4), .mv (.t 74), none, 985856, 11, []⟩])
      (.ret))
      (.skip)))))))))))))
 (.seq (.reg [⟨(some 4), .mv (.k (.bool false)), none, 1048576, 0, []⟩])
 (.ret)))))⟩
/-- loop.example/g00849/spec.l16Plain -/
def F41 : F := ⟨0, 2, [.cell 0 2 true],
 .seq (.reg [⟨(some 0), .alloc [(.int .i64 0), (.int .i64 0)], none, 0, 0, []⟩])
 (.seq (.reg [⟨(some 1), .build [(.int .i64 0), (.int .i64 0)] [(0, 1, (.k (.int .i64 1)))], none, 65536, 0, []⟩,
   ⟨none, .store 2 (.t 0) (.t 1), none, 65792, 1, []⟩])
 (.ret))⟩
/-- loop.example/g00849/laws.toPg -/
def F42 : F := ⟨1, 11, [.cell 2 2 true],
 .seq (.reg [⟨(some 1), .box (.t 0), none, 0, 0, []⟩,
   ⟨(some 2), .alloc [(.int .i64 0), (.int .i64 0)], none, 256, 1, []⟩])
 (.seq (.reg [⟨(some 3), .alloc [(.int .i64 0), (.int .i64 0)], none, 65536, 0, []⟩])
 (.seq (.reg [⟨(some 4), .faddr 0 (.t 1), none, 131072, 0, []⟩,
   ⟨(some 5), .load 1 false (.t 4), none, 131328, 1, []⟩,
   ⟨(some 6), .faddr 0 (.t 3), none, 131584, 2, []⟩,
   ⟨none, .store 1 (.t 6) (.t 5), none, 131840, 3, []⟩])
 (.seq (.reg [⟨(some 7), .faddr 1 (.t 1), none, 196608, 0, []⟩,
   ⟨(some 8), .load 1 false (.t 7), none, 196864, 1, []⟩,
   ⟨(some 9), .faddr 1 (.t 3), none, 197120, 2, []⟩,
   ⟨none, .store 1 (.t 9) (.t 8), none, 197376, 3, []⟩])
 (.seq (.reg [⟨(some 10), .load 2 true (.t 3), none, 262144, 0, []⟩,
   ⟨none, .store 2 (.t 2) (.t 10), none, 262400, 1, []⟩])
 (.ret)))))⟩
/-- loop.example/g00849/impl.isClient -/
def F43 : F := ⟨1, 5, [.t 2],
 .seq (.reg [⟨(some 2), .mv (.k (.bool false)), none, 0, 0, []⟩])
 (.seq (.reg [⟨(some 3), .mv (.t 0), none, 65536, 0, []⟩,
   ⟨(some 4), .call 44 [(.t 3), (.k (.int .i64 100)), (.k (.int .i64 105))] true, none, 65792, 1, []⟩,
   ⟨(some 2), .mv (.t 4), none, 66048, 2, []⟩])
 (.ret))⟩
/-- loop.example/g00849/impl.between -/
def F44 : F := ⟨3, 15, [.t 6],
 .seq (.reg [⟨(some 6), .mv (.k (.bool false)), none, 0, 0, []⟩])
 (.seq (.reg [⟨(some 7), .mv (.t 0), none, 65536, 0, []⟩,
   ⟨(some 8), .mv (.t 1), none, 65792, 1, []⟩,
   ⟨(some 9), .bin .geq (.t 7) (.t 8), none, 66048, 2, []⟩,
   ⟨(some 10), .mv (.t 9), none, 66304, 3, []⟩,
   ⟨(some 11), .mv (.t 0), (some (some 10, true)), 66560, 4, []⟩,
   ⟨(some 12), .mv (.t 2), (some (some 10, true)), 66816, 5, []⟩,
   ⟨(some 13), .bin .leq (.t 11) (.t 12), (some (some 10, true)), 67072, 6, []⟩,
   ⟨(some 14), .pick (.t 10) (.t 13) (.k (.bool false)), none, 67328, 7, []⟩,
   ⟨(some 6), .mv (.t 14), none, 67584, 8, []⟩])
 (.ret))⟩
/-- loop.example/g00849/impl.pgOk -/
def F45 : F := ⟨1, 11, [.t 2],
 .seq (.reg [⟨(some 1), .box (.t 0), none, 0, 0, []⟩,
   ⟨(some 2), .mv (.k (.bool false)), none, 256, 1, []⟩])
 (.seq (.reg [⟨(some 3), .faddr 0 (.t 1), none, 65536, 0, []⟩,
   ⟨(some 4), .load 1 false (.t 3), none, 65792, 1, []⟩,
   ⟨(some 5), .call 44 [(.t 4), (.k (.int .i64 1)), (.k (.int .i64 4))] true, none, 66048, 2, []⟩,
   ⟨(some 6), .mv (.t 5), none, 66304, 3, []⟩,
   ⟨(some 7), .faddr 1 (.t 1), (some (some 6, true)), 66560, 4, []⟩,
   ⟨(some 8), .load 1 false (.t 7), (some (some 6, true)), 66816, 5, []⟩,
   ⟨(some 9), .call 44 [(.t 8), (.k (.int .i64 0)), (.k (.int .i64 15))] true, (some (some 6, true)), 67072, 6, []⟩,
   ⟨(some 10), .pick (.t 6) (.t 9) (.k (.bool false)), none, 67328, 7, []⟩,
   ⟨(some 2), .mv (.t 10), none, 67584, 8, []⟩])
 (.ret))⟩
/-- loop.example/g00849/impl.NameOk -/
def F46 : F := ⟨1, 31, [.t 2],
 .seq (.reg [⟨(some 2), .mv (.k (.bool false)), none, 0, 0, []⟩])
 (.seq (.seq (.reg [⟨(some 5), .mv (.t 0), none, 65536, 0, []⟩,
   ⟨(some 6), .len true (.t 5), none, 65792, 1, []⟩,
   ⟨(some 7), .mv (.k (.int .i64 0)), none, 66048, 2, []⟩])
 (.block 0 (.loop [0, 6, 7] []
  (.seq (.reg [⟨(some 8), .bin .lss (.t 7) (.t 6), none, 131072, 0, []⟩])
  (.seq (.cond (.t 8)
   (.skip)
   (.exit 0))
  (.seq (.block 1 (.seq (.reg [⟨(some 9), .mv (.t 7), none, 196608, 0, []⟩,
    ⟨(some 3), .mv (.t 9), none, 196864, 1, []⟩])
  (.seq (.reg [⟨(some 10), .mv (.t 0), none, 262144, 0, []⟩,
    ⟨(some 11), .mv (.t 3), none, 262400, 1, []⟩,
    ⟨(some 12), .idx (.t 10) (.t 11), none, 262656, 2, []⟩,
    ⟨(some 4), .mv (.t 12), none, 262912, 3, []⟩])
  (.seq (.reg [⟨(some 13), .mv (.t 4), none, 327680, 0, []⟩,
    ⟨(some 14), .bin .lss (.t 13) (.k (.int .u8 97)), none, 327936, 1, []⟩,
    ⟨(some 15), .mv (.t 14), none, 328192, 2, []⟩,
    ⟨(some 16), .mv (.t 4), (some (some 15, false)), 328448, 3, []⟩,
    ⟨(some 17), .bin .gtr (.t 16) (.k (.int .u8 122)), (some (some 15, false)), 328704, 4, []⟩,
    ⟨(some 18), .pick (.t 15) (.k (.bool true)) (.t 17), none, 328960, 5, []⟩,
    ⟨(some 19), .mv (.t 18), none, 329216, 6, []⟩,
    ⟨(some 20), .mv (.t 4), (some (some 19, true)), 329472, 7, []⟩,
    ⟨(some 21), .bin .lss (.t 20) (.k (.int .u8 48)), (some (some 19, true)), 329728, 8, []⟩,
    ⟨(some 22), .mv (.t 21), (some (some 19, true)), 329984, 9, []⟩,
    ⟨(some 23), .mv (.t 4), (some (some 22, false)), 330240, 10, []⟩,
    ⟨(some 24), .bin .gtr (.t 23) (.k (.int .u8 57)), (some (some 22, false)), 330496, 11, []⟩,
    ⟨(some 25), .pick (.t 22) (.k (.bool true)) (.t 24), (some (some 19, true)), 330752, 12, []⟩,
    ⟨(some 26), .pick (.t 19) (.t 25) (.k (.bool false)), none, 331008, 13, []⟩])
  (.cond (.t 26)
   (.seq (.reg [⟨(some 2), .mv (.k (.bool false)), none, 393216, 0, []⟩])
   (.ret))
   (.skip))))))
  (.reg [⟨(some 27), .bin .add (.t 7) (.k (.int .i64 1)), none, 458752, 0, []⟩,
    ⟨(some 7), .mv (.t 27), none, 459008, 1, []⟩])))))))
 (.seq (.reg [⟨(some 28), .mv (.t 0), none, 524288, 0, []⟩,
   ⟨(some 29), .len true (.t 28), none, 524544, 1, []⟩,
   ⟨(some 30), .call 44 [(.t 29), (.k (.int .i64 1)), (.k (.int .i64 8))] true, none, 524800, 2, []⟩,
   ⟨(some 2), .mv (.t 30), none, 525056, 3, []⟩])
 (.ret)))⟩
/-- loop.example/g00849/impl.OpOk -/
def F47 : F := ⟨2, 79, [.t 4],
 .seq (.reg [⟨(some 2), .box (.t 0), none, 0, 0, []⟩,
   ⟨(some 3), .box (.t 1), none, 256, 1, []⟩,
   ⟨(some 4), .mv (.k (.bool false)), none, 512, 2, []⟩])
 (.seq (.seq (.reg [⟨(some 5), .load 2 true (.t 2), none, 65536, 0, []⟩,
   ⟨(some 6), .call 76 [(.t 5)] true, none, 65792, 1, []⟩,
   ⟨(some 7), .not (.t 6), none, 66048, 2, []⟩])
 (.cond (.t 7)
  (.seq (.reg [⟨(some 4), .mv (.k (.bool false)), none, 131072, 0, []⟩])
  (.ret))
  (.skip)))
 (.seq (.seq (.reg [⟨(some 8), .faddr 0 (.t 3), none, 196608, 0, []⟩,
   ⟨(some 9), .load 1 false (.t 8), none, 196864, 1, []⟩])
 (.block 0 (.seq (.seq (.reg [⟨(some 11), .bin .eql (.t 9) (.k (.int .i64 1)), none, 262144, 0, []⟩,
   ⟨(some 10), .mv (.t 11), none, 262400, 1, []⟩])
 (.cond (.t 10)
  (.skip)
  (.reg [⟨(some 12), .bin .eql (.t 9) (.k (.int .i64 6)), none, 327680, 0, []⟩,
    ⟨(some 10), .mv (.t 12), none, 327936, 1, []⟩])))
 (.cond (.t 10)
  (.seq (.reg [⟨(some 13), .faddr 1 (.t 3), none, 393216, 0, []⟩,
    ⟨(some 14), .load 1 false (.t 13), none, 393472, 1, []⟩,
    ⟨(some 15), .bin .eql (.t 14) (.k (.int .i64 0)), none, 393728, 2, []⟩,
    ⟨(some 16), .mv (.t 15), none, 393984, 3, []⟩,
    ⟨(some 17), .faddr 2 (.t 3), (some (some 16, true)), 394240, 4, []⟩,
    ⟨(some 18), .load 1 false (.t 17), (some (some 16, true)), 394496, 5, []⟩,
    ⟨(some 19), .bin .eql (.t 18) (.k (.str ByteArray.empty)), (some (some 16, true)), 394752, 6, []⟩,
    ⟨(some 20), .pick (.t 16) (.t 19) (.k (.bool false)), none, 395008, 7, []⟩,
    ⟨(some 4), .mv (.t 20), none, 395264, 8, []⟩])
  (.ret))
  (.seq (.reg [⟨(some 22), .bin .eql (.t 9) (.k (.int .i64 2)), none, 458752, 0, []⟩,
    ⟨(some 21), .mv (.t 22), none, 459008, 1, []⟩])
  (.cond (.t 21)
   (.seq (.reg [⟨(some 23), .faddr 1 (.t 3), none, 524288, 0, []⟩,
     ⟨(some 24), .load 1 false (.t 23), none, 524544, 1, []⟩,
     ⟨(some 25), .bin .eql (.t 24) (.k (.int .i64 0)), none, 524800, 2, []⟩,
     ⟨(some 26), .mv (.t 25), none, 525056, 3, []⟩,
     ⟨(some 27), .faddr 2 (.t 3), (some (some 26, true)), 525312, 4, []⟩,
     ⟨(some 28), .load 1 false (.t 27), (some (some 26, true)), 525568, 5, []⟩,
     ⟨(some 29), .len true (.t 28), (some (some 26, true)), 525824, 6, []⟩,
     ⟨(some 30), .bin .leq (.t 29) (.k (.int .i64 64)), (some (some 26, true)), 526080, 7, []⟩,
     ⟨(some 31), .pick (.t 26) (.t 30) (.k (.bool false)), none, 526336, 8, []⟩,
     ⟨(some 4), .mv (.t 31), none, 526592, 9, []⟩])
   (.ret))
   (.seq (.reg [⟨(some 33), .bin .eql (.t 9) (.k (.int .i64 3)), none, 589824, 0, []⟩,
     ⟨(some 32), .mv (.t 33), none, 590080, 1, []⟩])
   (.cond (.t 32)
    (.seq (.reg [⟨(some 34), .faddr 0 (.t 2), none, 655360, 0, []⟩,
      ⟨(some 35), .load 1 false (.t 34), none, 655616, 1, []⟩,
      ⟨(some 36), .bin .eql (.t 35) (.k (.int .i64 1)), none, 655872, 2, []⟩,
      ⟨(some 37), .mv (.t 36), none, 656128, 3, []⟩,
      ⟨(some 38), .faddr 1 (.t 3), (some (some 37, true)), 656384, 4, []⟩,
      ⟨(some 39), .load 1 false (.t 38), (some (some 37, true)), 656640, 5, []⟩,
      ⟨(some 40), .call 44 [(.t 39), (.k (.int .i64 0)), (.k (.int .i64 64))] true, (some (some 37, true)), 656896, 6, []⟩,
      ⟨(some 41), .pick (.t 37) (.t 40) (.k (.bool false)), none, 657152, 7, []⟩,
      ⟨(some 42), .mv (.t 41), none, 657408, 8, []⟩,
      ⟨(some 43), .faddr 2 (.t 3), (some (some 42, true)), 657664, 9, []⟩,
      ⟨(some 44), .load 1 false (.t 43), (some (some 42, true)), 657920, 10, []⟩,
      ⟨(some 45), .len true (.t 44), (some (some 42, true)), 658176, 11, []⟩,
      ⟨(some 46), .bin .leq (.t 45) (.k (.int .i64 64)), (some (some 42, true)), 658432, 12, []⟩,
      ⟨(some 47), .pick (.t 42) (.t 46) (.k (.bool false)), none, 658688, 13, []⟩,
      ⟨(some 4), .mv (.t 47), none, 658944, 14, []⟩])
    (.ret))
    (.seq (.reg [⟨(some 49), .bin .eql (.t 9) (.k (.int .i64 4)), none, 720896, 0, []⟩,
      ⟨(some 48), .mv (.t 49), none, 721152, 1, []⟩])
    (.cond (.t 48)
     (.seq (.reg [⟨(some 50), .faddr 0 (.t 2), none, 786432, 0, []⟩,
       ⟨(some 51), .load 1 false (.t 50), none, 786688, 1, []⟩,
       ⟨(some 52), .bin .eql (.t 51) (.k (.int .i64 1)), none, 786944, 2, []⟩,
       ⟨(some 53), .mv (.t 52), none, 787200, 3, []⟩,
       ⟨(some 54), .faddr 1 (.t 3), (some (some 53, true)), 787456, 4, []⟩,
       ⟨(some 55), .load 1 false (.t 54), (some (some 53, true)), 787712, 5, []⟩,
       ⟨(some 56), .bin .eql (.t 55) (.k (.int .i64 0)), (some (some 53, true)), 787968, 6, []⟩,
       ⟨(some 57), .pick (.t 53) (.t 56) (.k (.bool false)), none, 788224, 7, []⟩,
       ⟨(some 58), .mv (.t 57), none, 788480, 8, []⟩,
       ⟨(some 59), .faddr 2 (.t 3), (some (some 58, true)), 788736, 9, []⟩,
       ⟨(some 60), .load 1 false (.t 59), (some (some 58, true)), 788992, 10, []⟩,
       ⟨(some 61), .len true (.t 60), (some (some 58, true)), 789248, 11, []⟩,
       ⟨(some 62), .bin .leq (.t 61) (.k (.int .i64 64)), (some (some 58, true)), 789504, 12, []⟩,
       ⟨(some 63), .pick (.t 58) (.t 62) (.k (.bool false)), none, 789760, 13, []⟩,
       ⟨(some 4), .mv (.t 63), none, 790016, 14, []⟩])
     (.ret))
     (.seq (.reg [⟨(some 65), .bin .eql (.t 9) (.k (.int .i64 5)), none, 851968, 0, []⟩,
       ⟨(some 64), .mv (.t 65), none, 852224, 1, []⟩])
     (.cond (.t 64)
      (.seq (.reg [⟨(some 66), .faddr 0 (.t 2), none, 917504, 0, []⟩,
        ⟨(some 67), .load 1 false (.t 66), none, 917760, 1, []⟩,
        ⟨(some 68), .bin .eql (.t 67) (.k (.int .i64 1)), none, 918016, 2, []⟩,
        ⟨(some 69), .mv (.t 68), none, 918272, 3, []⟩,
        ⟨(some 70), .faddr 1 (.t 3), (some (some 69, true)), 918528, 4, []⟩,
        ⟨(some 71), .load 1 false (.t 70), (some (some 69, true)), 918784, 5, []⟩,
        ⟨(some 72), .call 44 [(.t 71), (.k (.int .i64 0)), (.k (.int .i64 64))] true, (some (some 69, true)), 919040, 6, []⟩,
        ⟨(some 73), .pick (.t 69) (.t 72) (.k (.bool false)), none, 919296, 7, []⟩,
        ⟨(some 74), .mv (.t 73), none, 919552, 8, []⟩,
        ⟨(some 75), .faddr 2 (.t 3), (some (some 74, true)), 919808, 9, []⟩,
        ⟨(some 76), .load 1 false (.t 75), (some (some 74, true)), 920064, 10, []⟩,
        ⟨(some 77), .bin .eql (.t 76) (.k (.str ByteArray.empty)), (some (some 74, true)), 920320, 11, []⟩,
        ⟨(some 78), .pick (.t 74) (.t 77) (.k (.bool false)), none, 920576, 12, []⟩,
        ⟨(some 4), .mv (.t 78), none, 920832, 13, []⟩])
      (.ret))
      (.skip)))))))))))))
 (.seq (.reg [⟨(some 4), .mv (.k (.bool false)), none, 983040, 0, []⟩])
 (.ret))))⟩
/-- loop.example/g00849/impl.plainCode -/
def F48 : F := ⟨0, 2, [.cell 0 2 true],
 .seq (.reg [⟨(some 0), .alloc [(.int .i64 0), (.int .i64 0)], none, 0, 0, []⟩])
 (.seq (.reg [⟨(some 1), .build [(.int .i64 0), (.int .i64 0)] [(0, 1, (.k (.int .i64 1)))], none, 65536, 0, []⟩,
   ⟨none, .store 2 (.t 0) (.t 1), none, 65792, 1, []⟩])
 (.ret))⟩
/-- loop.example/g00849/laws.eqPg -/
def F49 : F := ⟨2, 15, [.t 4],
 .seq (.reg [⟨(some 2), .box (.t 0), none, 0, 0, []⟩,
   ⟨(some 3), .box (.t 1), none, 256, 1, []⟩,
   ⟨(some 4), .mv (.k (.bool false)), none, 512, 2, []⟩])
 (.seq (.seq (.reg [⟨(some 5), .faddr 0 (.t 2), none, 65536, 0, []⟩,
   ⟨(some 6), .load 1 false (.t 5), none, 65792, 1, []⟩,
   ⟨(some 7), .faddr 0 (.t 3), none, 66048, 2, []⟩,
   ⟨(some 8), .load 1 false (.t 7), none, 66304, 3, []⟩,
   ⟨(some 9), .bin .neq (.t 6) (.t 8), none, 66560, 4, []⟩])
 (.cond (.t 9)
  (.seq (.reg [⟨(some 4), .mv (.k (.bool false)), none, 131072, 0, []⟩])
  (.ret))
  (.skip)))
 (.seq (.seq (.reg [⟨(some 10), .faddr 1 (.t 2), none, 196608, 0, []⟩,
   ⟨(some 11), .load 1 false (.t 10), none, 196864, 1, []⟩,
   ⟨(some 12), .faddr 1 (.t 3), none, 197120, 2, []⟩,
   ⟨(some 13), .load 1 false (.t 12), none, 197376, 3, []⟩,
   ⟨(some 14), .bin .neq (.t 11) (.t 13), none, 197632, 4, []⟩])
 (.cond (.t 14)
  (.seq (.reg [⟨(some 4), .mv (.k (.bool false)), none, 262144, 0, []⟩])
  (.ret))
  (.skip)))
 (.seq (.reg [⟨(some 4), .mv (.k (.bool true)), none, 327680, 0, []⟩])
 (.ret))))⟩
/-- loop.example/g00849/laws.eqOp -/
def F50 : F := ⟨2, 20, [.t 4],
 .seq (.reg [⟨(some 2), .box (.t 0), none, 0, 0, []⟩,
   ⟨(some 3), .box (.t 1), none, 256, 1, []⟩,
   ⟨(some 4), .mv (.k (.bool false)), none, 512, 2, []⟩])
 (.seq (.seq (.reg [⟨(some 5), .faddr 0 (.t 2), none, 65536, 0, []⟩,
   ⟨(some 6), .load 1 false (.t 5), none, 65792, 1, []⟩,
   ⟨(some 7), .faddr 0 (.t 3), none, 66048, 2, []⟩,
   ⟨(some 8), .load 1 false (.t 7), none, 66304, 3, []⟩,
   ⟨(some 9), .bin .neq (.t 6) (.t 8), none, 66560, 4, []⟩])
 (.cond (.t 9)
  (.seq (.reg [⟨(some 4), .mv (.k (.bool false)), none, 131072, 0, []⟩])
  (.ret))
  (.skip)))
 (.seq (.seq (.reg [⟨(some 10), .faddr 1 (.t 2), none, 196608, 0, []⟩,
   ⟨(some 11), .load 1 false (.t 10), none, 196864, 1, []⟩,
   ⟨(some 12), .faddr 1 (.t 3), none, 197120, 2, []⟩,
   ⟨(some 13), .load 1 false (.t 12), none, 197376, 3, []⟩,
   ⟨(some 14), .bin .neq (.t 11) (.t 13), none, 197632, 4, []⟩])
 (.cond (.t 14)
  (.seq (.reg [⟨(some 4), .mv (.k (.bool false)), none, 262144, 0, []⟩])
  (.ret))
  (.skip)))
 (.seq (.seq (.reg [⟨(some 15), .faddr 2 (.t 2), none, 327680, 0, []⟩,
   ⟨(some 16), .load 1 false (.t 15), none, 327936, 1, []⟩,
   ⟨(some 17), .faddr 2 (.t 3), none, 328192, 2, []⟩,
   ⟨(some 18), .load 1 false (.t 17), none, 328448, 3, []⟩,
   ⟨(some 19), .bin .neq (.t 16) (.t 18), none, 328704, 4, []⟩])
 (.cond (.t 19)
  (.seq (.reg [⟨(some 4), .mv (.k (.bool false)), none, 393216, 0, []⟩])
  (.ret))
  (.skip)))
 (.seq (.reg [⟨(some 4), .mv (.k (.bool true)), none, 458752, 0, []⟩])
 (.ret)))))⟩
/-- loop.example/g00849/laws.eqVer -/
def F51 : F := ⟨2, 15, [.t 4],
 .seq (.reg [⟨(some 2), .box (.t 0), none, 0, 0, []⟩,
   ⟨(some 3), .box (.t 1), none, 256, 1, []⟩,
   ⟨(some 4), .mv (.k (.bool false)), none, 512, 2, []⟩])
 (.seq (.seq (.reg [⟨(some 5), .faddr 0 (.t 2), none, 65536, 0, []⟩,
   ⟨(some 6), .load 1 false (.t 5), none, 65792, 1, []⟩,
   ⟨(some 7), .faddr 0 (.t 3), none, 66048, 2, []⟩,
   ⟨(some 8), .load 1 false (.t 7), none, 66304, 3, []⟩,
   ⟨(some 9), .bin .neq (.t 6) (.t 8), none, 66560, 4, []⟩])
 (.cond (.t 9)
  (.seq (.reg [⟨(some 4), .mv (.k (.bool false)), none, 131072, 0, []⟩])
  (.ret))
  (.skip)))
 (.seq (.seq (.reg [⟨(some 10), .faddr 1 (.t 2), none, 196608, 0, []⟩,
   ⟨(some 11), .load 1 false (.t 10), none, 196864, 1, []⟩,
   ⟨(some 12), .faddr 1 (.t 3), none, 197120, 2, []⟩,
   ⟨(some 13), .load 1 false (.t 12), none, 197376, 3, []⟩,
   ⟨(some 14), .bin .neq (.t 11) (.t 13), none, 197632, 4, []⟩])
 (.cond (.t 14)
  (.seq (.reg [⟨(some 4), .mv (.k (.bool false)), none, 262144, 0, []⟩])
  (.ret))
  (.skip)))
 (.seq (.reg [⟨(some 4), .mv (.k (.bool true)), none, 327680, 0, []⟩])
 (.ret))))⟩
/-- loop.example/g00849/spec.PoolOk -/
def F69 : F := ⟨1, 5, [.t 2],
 .seq (.reg [⟨(some 1), .box (.t 0), none, 0, 0, []⟩,
   ⟨(some 2), .mv (.k (.bool false)), none, 256, 1, []⟩])
 (.seq (.reg [⟨(some 3), .load 6 true (.t 1), none, 65536, 0, []⟩,
   ⟨(some 4), .call 83 [(.t 3)] true, none, 65792, 1, []⟩,
   ⟨(some 2), .mv (.t 4), none, 66048, 2, []⟩])
 (.ret))⟩
/-- loop.example/g00849/spec.PgOf -/
def F70 : F := ⟨2, 21, [.cell 4 2 true, .t 5],
 .seq (.reg [⟨(some 2), .box (.t 0), none, 0, 0, []⟩,
   ⟨(some 4), .alloc [(.int .i64 0), (.int .i64 0)], none, 256, 1, []⟩,
   ⟨(some 5), .mv (.k (.bool false)), none, 512, 2, []⟩])
 (.seq (.seq (.reg [⟨(some 6), .load 6 true (.t 2), none, 65536, 0, []⟩,
   ⟨(some 7), .call 83 [(.t 6)] true, none, 65792, 1, []⟩,
   ⟨(some 8), .not (.t 7), none, 66048, 2, []⟩,
   ⟨(some 9), .mv (.t 8), none, 66304, 3, []⟩,
   ⟨(some 10), .mv (.t 1), (some (some 9, false)), 66560, 4, []⟩,
   ⟨(some 11), .call 74 [(.t 10)] true, (some (some 9, false)), 66816, 5, []⟩,
   ⟨(some 12), .not (.t 11), (some (some 9, false)), 67072, 6, []⟩,
   ⟨(some 13), .pick (.t 9) (.k (.bool true)) (.t 12), none, 67328, 7, []⟩])
 (.cond (.t 13)
  (.seq (.reg [⟨(some 14), .build [(.int .i64 0), (.int .i64 0)] [], none, 131072, 0, []⟩,
    ⟨none, .store 2 (.t 4) (.t 14), none, 131328, 1, []⟩,
    ⟨(some 5), .mv (.k (.bool false)), none, 131584, 2, []⟩])
  (.ret))
  (.skip)))
 (.seq (.reg [⟨(some 15), .faddr 0 (.t 2), none, 196608, 0, []⟩,
   ⟨(some 16), .load 1 false (.t 15), none, 196864, 1, []⟩,
   ⟨(some 17), .load 6 true (.t 2), none, 197120, 2, []⟩,
   ⟨(some 18), .mv (.t 1), none, 197376, 3, []⟩,
   ⟨(some 19), .call 84 [(.t 17), (.t 18)] true, none, 197632, 4, []⟩,
   ⟨(some 20), .build [(.int .i64 0), (.int .i64 0)] [(0, 1, (.t 16)), (1, 1, (.t 19))], none, 197888, 5, []⟩,
   ⟨none, .store 2 (.t 4) (.t 20), none, 198144, 6, []⟩,
   ⟨(some 5), .mv (.k (.bool true)), none, 198400, 7, []⟩])
 (.ret)))⟩
/-- loop.example/g00849/laws.toCode -/
def F71 : F := ⟨1, 11, [.cell 2 2 true],
 .seq (.reg [⟨(some 1), .box (.t 0), none, 0, 0, []⟩,
   ⟨(some 2), .alloc [(.int .i64 0), (.int .i64 0)], none, 256, 1, []⟩])
 (.seq (.reg [⟨(some 3), .alloc [(.int .i64 0), (.int .i64 0)], none, 65536, 0, []⟩])
 (.seq (.reg [⟨(some 4), .faddr 0 (.t 1), none, 131072, 0, []⟩,
   ⟨(some 5), .load 1 false (.t 4), none, 131328, 1, []⟩,
   ⟨(some 6), .faddr 0 (.t 3), none, 131584, 2, []⟩,
   ⟨none, .store 1 (.t 6) (.t 5), none, 131840, 3, []⟩])
 (.seq (.reg [⟨(some 7), .faddr 1 (.t 1), none, 196608, 0, []⟩,
   ⟨(some 8), .load 1 false (.t 7), none, 196864, 1, []⟩,
   ⟨(some 9), .faddr 1 (.t 3), none, 197120, 2, []⟩,
   ⟨none, .store 1 (.t 9) (.t 8), none, 197376, 3, []⟩])
 (.seq (.reg [⟨(some 10), .load 2 true (.t 3), none, 262144, 0, []⟩,
   ⟨none, .store 2 (.t 2) (.t 10), none, 262400, 1, []⟩])
 (.ret)))))⟩
/-- loop.example/g00849/impl.PoolOk -/
def F72 : F := ⟨1, 32, [.t 2],
 .seq (.reg [⟨(some 1), .box (.t 0), none, 0, 0, []⟩,
   ⟨(some 2), .mv (.k (.bool false)), none, 256, 1, []⟩])
 (.seq (.reg [⟨(some 3), .faddr 0 (.t 1), none, 65536, 0, []⟩,
   ⟨(some 4), .load 1 false (.t 3), none, 65792, 1, []⟩,
   ⟨(some 5), .call 44 [(.t 4), (.k (.int .i64 1)), (.k (.int .i64 4))] true, none, 66048, 2, []⟩,
   ⟨(some 6), .mv (.t 5), none, 66304, 3, []⟩,
   ⟨(some 7), .faddr 1 (.t 1), (some (some 6, true)), 66560, 4, []⟩,
   ⟨(some 8), .load 2 true (.t 7), (some (some 6, true)), 66816, 5, []⟩,
   ⟨(some 9), .call 76 [(.t 8)] true, (some (some 6, true)), 67072, 6, []⟩,
   ⟨(some 10), .pick (.t 6) (.t 9) (.k (.bool false)), none, 67328, 7, []⟩,
   ⟨(some 11), .mv (.t 10), none, 67584, 8, []⟩,
   ⟨(some 12), .faddr 3 (.t 1), (some (some 11, true)), 67840, 9, []⟩,
   ⟨(some 13), .load 1 false (.t 12), (some (some 11, true)), 68096, 10, []⟩,
   ⟨(some 14), .faddr 1 (.t 1), (some (some 11, true)), 68352, 11, []⟩,
   ⟨(some 15), .faddr 0 (.t 14), (some (some 11, true)), 68608, 12, []⟩,
   ⟨(some 16), .load 1 false (.t 15), (some (some 11, true)), 68864, 13, []⟩,
   ⟨(some 17), .faddr 1 (.t 1), (some (some 11, true)), 69120, 14, []⟩,
   ⟨(some 18), .load 2 true (.t 17), (some (some 11, true)), 69376, 15, []⟩,
   ⟨(some 19), .call 85 [(.t 18)] true, (some (some 11, true)), 69632, 16, []⟩,
   ⟨(some 20), .call 44 [(.t 13), (.t 16), (.t 19)] true, (some (some 11, true)), 69888, 17, []⟩,
   ⟨(some 21), .pick (.t 11) (.t 20) (.k (.bool false)), none, 70144, 18, []⟩,
   ⟨(some 22), .mv (.t 21), none, 70400, 19, []⟩,
   ⟨(some 23), .faddr 4 (.t 1), (some (some 22, true)), 70656, 20, []⟩,
   ⟨(some 24), .load 1 false (.t 23), (some (some 22, true)), 70912, 21, []⟩,
   ⟨(some 25), .call 44 [(.t 24), (.k (.int .i64 1)), (.k (.int .i64 16))] true, (some (some 22, true)), 71168, 22, []⟩,
   ⟨(some 26), .pick (.t 22) (.t 25) (.k (.bool false)), none, 71424, 23, []⟩,
   ⟨(some 27), .mv (.t 26), none, 71680, 24, []⟩,
   ⟨(some 28), .faddr 5 (.t 1), (some (some 27, true)), 71936, 25, []⟩,
   ⟨(some 29), .load 1 false (.t 28), (some (some 27, true)), 72192, 26, []⟩,
   ⟨(some 30), .call 44 [(.t 29), (.k (.int .i64 1)), (.k (.int .i64 4))] true, (some (some 27, true)), 72448, 27, []⟩,
   ⟨(some 31), .pick (.t 27) (.t 30) (.k (.bool false)), none, 72704, 28, []⟩,
   ⟨(some 2), .mv (.t 31), none, 72960, 29, []⟩])
 (.ret))⟩
/-- loop.example/g00849/impl.pgOf -/
def F73 : F := ⟨2, 28, [.cell 4 2 true],
 .seq (.reg [⟨(some 2), .box (.t 0), none, 0, 0, []⟩,
   ⟨(some 4), .alloc [(.int .i64 0), (.int .i64 0)], none, 256, 1, []⟩])
 (.seq (.reg [⟨(some 5), .nil0 true 1, none, 65536, 0, []⟩])
 (.seq (.seq (.reg [⟨(some 7), .mv (.t 1), none, 131072, 0, []⟩,
   ⟨(some 8), .len true (.t 7), none, 131328, 1, []⟩,
   ⟨(some 9), .mv (.k (.int .i64 0)), none, 131584, 2, []⟩])
 (.block 0 (.loop [1, 2, 4, 5, 8, 9] [0, 1, 2, 3, 4, 5, 256, 65536, 460801, 460802]
  (.seq (.reg [⟨(some 10), .bin .lss (.t 9) (.t 8), none, 196608, 0, []⟩])
  (.seq (.cond (.t 10)
   (.skip)
   (.exit 0))
  (.seq (.block 1 (.seq (.reg [⟨(some 11), .mv (.t 9), none, 262144, 0, []⟩,
    ⟨(some 6), .mv (.t 11), none, 262400, 1, []⟩])
  (.reg [⟨(some 12), .mv (.t 5), none, 327680, 0, []⟩,
    ⟨(some 13), .mv (.t 1), none, 327936, 1, []⟩,
    ⟨(some 14), .mv (.t 6), none, 328192, 2, []⟩,
    ⟨(some 15), .idx (.t 13) (.t 14), none, 328448, 3, []⟩,
    ⟨(some 16), .conv .i64 (.t 15), none, 328704, 4, []⟩,
    ⟨(some 17), .bslice true 1 [(.int .i64 0)] 1 [(0, (.t 16))], none, 328960, 5, []⟩,
    ⟨(some 18), .app true 1 8 (.t 12) (.t 17), none, 329216, 6, []⟩,
    ⟨(some 5), .mv (.t 18), none, 329472, 7, []⟩])))
  (.reg [⟨(some 19), .bin .add (.t 9) (.k (.int .i64 1)), none, 393216, 0, []⟩,
    ⟨(some 9), .mv (.t 19), none, 393472, 1, []⟩])))))))
 (.seq (.reg [⟨(some 20), .faddr 0 (.t 2), none, 458752, 0, []⟩,
   ⟨(some 21), .load 1 false (.t 20), none, 459008, 1, []⟩,
   ⟨(some 22), .mv (.t 5), none, 459264, 2, []⟩,
   ⟨(some 23), .call 86 [(.t 22)] true, none, 459520, 3, []⟩,
   ⟨(some 24), .faddr 4 (.t 2), none, 459776, 4, []⟩,
   ⟨(some 25), .load 1 false (.t 24), none, 460032, 5, []⟩,
   ⟨(some 26), .bin .rem (.t 23) (.t 25), none, 460288, 6, []⟩,
   ⟨(some 27), .build [(.int .i64 0), (.int .i64 0)] [(0, 1, (.t 21)), (1, 1, (.t 26))], none, 460544, 7, []⟩,
   ⟨none, .store 2 (.t 4) (.t 27), none, 460800, 8, []⟩])
 (.ret))))⟩
/-- loop.example/g00849/spec.l09Name -/
def F74 : F := ⟨1, 36, [.t 2],
 .seq (.reg [⟨(some 2), .mv (.k (.bool false)), none, 0, 0, []⟩])
 (.seq (.seq (.reg [⟨(some 5), .mv (.t 0), none, 65536, 0, []⟩,
   ⟨(some 6), .len true (.t 5), none, 65792, 1, []⟩,
   ⟨(some 7), .bin .lss (.t 6) (.k (.int .i64 1)), none, 66048, 2, []⟩,
   ⟨(some 8), .mv (.t 7), none, 66304, 3, []⟩,
   ⟨(some 9), .mv (.t 0), (some (some 8, false)), 66560, 4, []⟩,
   ⟨(some 10), .len true (.t 9), (some (some 8, false)), 66816, 5, []⟩,
   ⟨(some 11), .bin .gtr (.t 10) (.k (.int .i64 8)), (some (some 8, false)), 67072, 6, []⟩,
   ⟨(some 12), .pick (.t 8) (.k (.bool true)) (.t 11), none, 67328, 7, []⟩])
 (.cond (.t 12)
  (.seq (.reg [⟨(some 2), .mv (.k (.bool false)), none, 131072, 0, []⟩])
  (.ret))
  (.skip)))
 (.seq (.seq (.reg [⟨(some 3), .mv (.k (.int .i64 0)), none, 196608, 0, []⟩])
 (.block 0 (.loop [0, 3] []
  (.seq (.seq (.reg [⟨(some 13), .mv (.t 3), none, 262144, 0, []⟩,
    ⟨(some 14), .mv (.t 0), none, 262400, 1, []⟩,
    ⟨(some 15), .len true (.t 14), none, 262656, 2, []⟩,
    ⟨(some 16), .bin .lss (.t 13) (.t 15), none, 262912, 3, []⟩])
  (.cond (.t 16)
   (.skip)
   (.exit 0)))
  (.seq (.block 1 (.seq (.reg [⟨(some 19), .mv (.t 0), none, 393216, 0, []⟩,
    ⟨(some 20), .mv (.t 3), none, 393472, 1, []⟩,
    ⟨(some 21), .idx (.t 19) (.t 20), none, 393728, 2, []⟩,
    ⟨(some 4), .mv (.t 21), none, 393984, 3, []⟩])
  (.seq (.reg [⟨(some 22), .mv (.t 4), none, 458752, 0, []⟩,
    ⟨(some 23), .bin .lss (.t 22) (.k (.int .u8 97)), none, 459008, 1, []⟩,
    ⟨(some 24), .mv (.t 23), none, 459264, 2, []⟩,
    ⟨(some 25), .mv (.t 4), (some (some 24, false)), 459520, 3, []⟩,
    ⟨(some 26), .bin .gtr (.t 25) (.k (.int .u8 122)), (some (some 24, false)), 459776, 4, []⟩,
    ⟨(some 27), .pick (.t 24) (.k (.bool true)) (.t 26), none, 460032, 5, []⟩,
    ⟨(some 28), .mv (.t 27), none, 460288, 6, []⟩,
    ⟨(some 29), .mv (.t 4), (some (some 28, true)), 460544, 7, []⟩,
    ⟨(some 30), .bin .lss (.t 29) (.k (.int .u8 48)), (some (some 28, true)), 460800, 8, []⟩,
    ⟨(some 31), .mv (.t 30), (some (some 28, true)), 461056, 9, []⟩,
    ⟨(some 32), .mv (.t 4), (some (some 31, false)), 461312, 10, []⟩,
    ⟨(some 33), .bin .gtr (.t 32) (.k (.int .u8 57)), (some (some 31, false)), 461568, 11, []⟩,
    ⟨(some 34), .pick (.t 31) (.k (.bool true)) (.t 33), (some (some 28, true)), 461824, 12, []⟩,
    ⟨(some 35), .pick (.t 28) (.t 34) (.k (.bool false)), none, 462080, 13, []⟩])
  (.cond (.t 35)
   (.seq (.reg [⟨(some 2), .mv (.k (.bool false)), none, 524288, 0, []⟩])
   (.ret))
   (.skip)))))
  (.reg [⟨(some 17), .mv (.t 3), none, 327680, 0, []⟩,
    ⟨(some 18), .bin .add (.t 17) (.k (.int .i64 1)), none, 327936, 1, []⟩,
    ⟨(some 3), .mv (.t 18), none, 328192, 2, []⟩]))))))
 (.seq (.reg [⟨(some 2), .mv (.k (.bool true)), none, 589824, 0, []⟩])
 (.ret))))⟩
/-- loop.example/g00849/spec.CodeOk -/
def F75 : F := ⟨1, 5, [.t 2],
 .seq (.reg [⟨(some 1), .box (.t 0), none, 0, 0, []⟩,
   ⟨(some 2), .mv (.k (.bool false)), none, 256, 1, []⟩])
 (.seq (.reg [⟨(some 3), .load 2 true (.t 1), none, 65536, 0, []⟩,
   ⟨(some 4), .call 87 [(.t 3)] true, none, 65792, 1, []⟩,
   ⟨(some 2), .mv (.t 4), none, 66048, 2, []⟩])
 (.ret))⟩
/-- loop.example/g00849/impl.CodeOk -/
def F76 : F := ⟨1, 11, [.t 2],
 .seq (.reg [⟨(some 1), .box (.t 0), none, 0, 0, []⟩,
   ⟨(some 2), .mv (.k (.bool false)), none, 256, 1, []⟩])
 (.seq (.reg [⟨(some 3), .faddr 0 (.t 1), none, 65536, 0, []⟩,
   ⟨(some 4), .load 1 false (.t 3), none, 65792, 1, []⟩,
   ⟨(some 5), .call 44 [(.t 4), (.k (.int .i64 1)), (.k (.int .i64 4))] true, none, 66048, 2, []⟩,
   ⟨(some 6), .mv (.t 5), none, 66304, 3, []⟩,
   ⟨(some 7), .faddr 1 (.t 1), (some (some 6, true)), 66560, 4, []⟩,
   ⟨(some 8), .load 1 false (.t 7), (some (some 6, true)), 66816, 5, []⟩,
   ⟨(some 9), .call 44 [(.t 8), (.k (.int .i64 0)), (.k (.int .i64 3))] true, (some (some 6, true)), 67072, 6, []⟩,
   ⟨(some 10), .pick (.t 6) (.t 9) (.k (.bool false)), none, 67328, 7, []⟩,
   ⟨(some 2), .mv (.t 10), none, 67584, 8, []⟩])
 (.ret))⟩
/-- loop.example/g00849/spec.l09OK -/
def F83 : F := ⟨1, 36, [.t 2],
 .seq (.reg [⟨(some 1), .box (.t 0), none, 0, 0, []⟩,
   ⟨(some 2), .mv (.k (.bool false)), none, 256, 1, []⟩])
 (.seq (.reg [⟨(some 3), .faddr 0 (.t 1), none, 65536, 0, []⟩,
   ⟨(some 4), .load 1 false (.t 3), none, 65792, 1, []⟩,
   ⟨(some 5), .call 37 [(.t 4), (.k (.int .i64 1)), (.k (.int .i64 4))] true, none, 66048, 2, []⟩,
   ⟨(some 6), .mv (.t 5), none, 66304, 3, []⟩,
   ⟨(some 7), .faddr 1 (.t 1), (some (some 6, true)), 66560, 4, []⟩,
   ⟨(some 8), .load 2 true (.t 7), (some (some 6, true)), 66816, 5, []⟩,
   ⟨(some 9), .call 87 [(.t 8)] true, (some (some 6, true)), 67072, 6, []⟩,
   ⟨(some 10), .pick (.t 6) (.t 9) (.k (.bool false)), none, 67328, 7, []⟩,
   ⟨(some 11), .mv (.t 10), none, 67584, 8, []⟩,
   ⟨(some 12), .faddr 3 (.t 1), (some (some 11, true)), 67840, 9, []⟩,
   ⟨(some 13), .load 1 false (.t 12), (some (some 11, true)), 68096, 10, []⟩,
   ⟨(some 14), .faddr 1 (.t 1), (some (some 11, true)), 68352, 11, []⟩,
   ⟨(some 15), .faddr 0 (.t 14), (some (some 11, true)), 68608, 12, []⟩,
   ⟨(some 16), .load 1 false (.t 15), (some (some 11, true)), 68864, 13, []⟩,
   ⟨(some 17), .faddr 1 (.t 1), (some (some 11, true)), 69120, 14, []⟩,
   ⟨(some 18), .faddr 0 (.t 17), (some (some 11, true)), 69376, 15, []⟩,
   ⟨(some 19), .load 1 false (.t 18), (some (some 11, true)), 69632, 16, []⟩,
   ⟨(some 20), .faddr 1 (.t 1), (some (some 11, true)), 69888, 17, []⟩,
   ⟨(some 21), .faddr 1 (.t 20), (some (some 11, true)), 70144, 18, []⟩,
   ⟨(some 22), .load 1 false (.t 21), (some (some 11, true)), 70400, 19, []⟩,
   ⟨(some 23), .bin .add (.t 19) (.t 22), (some (some 11, true)), 70656, 20, []⟩,
   ⟨(some 24), .call 37 [(.t 13), (.t 16), (.t 23)] true, (some (some 11, true)), 70912, 21, []⟩,
   ⟨(some 25), .pick (.t 11) (.t 24) (.k (.bool false)), none, 71168, 22, []⟩,
   ⟨(some 26), .mv (.t 25), none, 71424, 23, []⟩,
   ⟨(some 27), .faddr 4 (.t 1), (some (some 26, true)), 71680, 24, []⟩,
   ⟨(some 28), .load 1 false (.t 27), (some (some 26, true)), 71936, 25, []⟩,
   ⟨(some 29), .call 37 [(.t 28), (.k (.int .i64 1)), (.k (.int .i64 16))] true, (some (some 26, true)), 72192, 26, []⟩,
   ⟨(some 30), .pick (.t 26) (.t 29) (.k (.bool false)), none, 72448, 27, []⟩,
   ⟨(some 31), .mv (.t 30), none, 72704, 28, []⟩,
   ⟨(some 32), .faddr 5 (.t 1), (some (some 31, true)), 72960, 29, []⟩,
   ⟨(some 33), .load 1 false (.t 32), (some (some 31, true)), 73216, 30, []⟩,
   ⟨(some 34), .call 37 [(.t 33), (.k (.int .i64 1)), (.k (.int .i64 4))] true, (some (some 31, true)), 73472, 31, []⟩,
   ⟨(some 35), .pick (.t 31) (.t 34) (.k (.bool false)), none, 73728, 32, []⟩,
   ⟨(some 2), .mv (.t 35), none, 73984, 33, []⟩])
 (.ret))⟩
/-- loop.example/g00849/spec.l09No -/
def F84 : F := ⟨2, 26, [.t 4],
 .seq (.reg [⟨(some 2), .box (.t 0), none, 0, 0, []⟩,
   ⟨(some 4), .mv (.k (.int .i64 0)), none, 256, 1, []⟩])
 (.seq (.reg [⟨(some 7), .bslice true 1 [(.int .i64 0)] 0 [], none, 65536, 0, []⟩,
   ⟨(some 5), .mv (.t 7), none, 65792, 1, []⟩])
 (.seq (.seq (.reg [⟨(some 6), .mv (.k (.int .i64 0)), none, 131072, 0, []⟩])
 (.block 0 (.loop [1, 2, 5, 6] [0, 1, 2, 3, 4, 5, 65536]
  (.seq (.seq (.reg [⟨(some 8), .mv (.t 6), none, 196608, 0, []⟩,
    ⟨(some 9), .mv (.t 1), none, 196864, 1, []⟩,
    ⟨(some 10), .len true (.t 9), none, 197120, 2, []⟩,
    ⟨(some 11), .bin .lss (.t 8) (.t 10), none, 197376, 3, []⟩])
  (.cond (.t 11)
   (.skip)
   (.exit 0)))
  (.seq (.block 1 (.reg [⟨(some 14), .mv (.t 5), none, 327680, 0, []⟩,
    ⟨(some 15), .mv (.t 1), none, 327936, 1, []⟩,
    ⟨(some 16), .mv (.t 6), none, 328192, 2, []⟩,
    ⟨(some 17), .idx (.t 15) (.t 16), none, 328448, 3, []⟩,
    ⟨(some 18), .conv .i64 (.t 17), none, 328704, 4, []⟩,
    ⟨(some 19), .bslice true 1 [(.int .i64 0)] 1 [(0, (.t 18))], none, 328960, 5, []⟩,
    ⟨(some 20), .app true 1 8 (.t 14) (.t 19), none, 329216, 6, []⟩,
    ⟨(some 5), .mv (.t 20), none, 329472, 7, []⟩]))
  (.reg [⟨(some 12), .mv (.t 6), none, 262144, 0, []⟩,
    ⟨(some 13), .bin .add (.t 12) (.k (.int .i64 1)), none, 262400, 1, []⟩,
    ⟨(some 6), .mv (.t 13), none, 262656, 2, []⟩]))))))
 (.seq (.reg [⟨(some 21), .mv (.t 5), none, 393216, 0, []⟩,
   ⟨(some 22), .call 90 [(.t 21)] true, none, 393472, 1, []⟩,
   ⟨(some 23), .faddr 4 (.t 2), none, 393728, 2, []⟩,
   ⟨(some 24), .load 1 false (.t 23), none, 393984, 3, []⟩,
   ⟨(some 25), .bin .rem (.t 22) (.t 24), none, 394240, 4, []⟩,
   ⟨(some 4), .mv (.t 25), none, 394496, 5, []⟩])
 (.ret))))⟩
/-- (loop.example/g00849/impl.Code).size -/
def F85 : F := ⟨1, 8, [.t 2],
 .seq (.reg [⟨(some 1), .box (.t 0), none, 0, 0, []⟩,
   ⟨(some 2), .mv (.k (.int .i64 0)), none, 256, 1, []⟩])
 (.seq (.reg [⟨(some 3), .faddr 0 (.t 1), none, 65536, 0, []⟩,
   ⟨(some 4), .load 1 false (.t 3), none, 65792, 1, []⟩,
   ⟨(some 5), .faddr 1 (.t 1), none, 66048, 2, []⟩,
   ⟨(some 6), .load 1 false (.t 5), none, 66304, 3, []⟩,
   ⟨(some 7), .bin .add (.t 4) (.t 6), none, 66560, 4, []⟩,
   ⟨(some 2), .mv (.t 7), none, 66816, 5, []⟩])
 (.ret))⟩
/-- loop.example/g00849/impl.Mix -/
def F86 : F := ⟨1, 30, [.t 2],
 .seq (.reg [⟨(some 2), .mv (.k (.int .i64 0)), none, 0, 0, []⟩])
 (.seq (.reg [⟨(some 3), .mv (.k (.int .u32 2166136261)), none, 65536, 0, []⟩])
 (.seq (.seq (.reg [⟨(some 6), .mv (.t 0), none, 131072, 0, []⟩,
   ⟨(some 7), .len false (.t 6), none, 131328, 1, []⟩,
   ⟨(some 8), .mv (.k (.int .i64 0)), none, 131584, 2, []⟩])
 (.block 0 (.loop [3, 6, 7, 8] []
  (.seq (.reg [⟨(some 9), .bin .lss (.t 8) (.t 7), none, 196608, 0, []⟩])
  (.seq (.cond (.t 9)
   (.skip)
   (.exit 0))
  (.seq (.block 1 (.seq (.reg [⟨(some 10), .iaddr 1 (.t 6) (.t 8), none, 262144, 0, []⟩,
    ⟨(some 11), .load 1 false (.t 10), none, 262400, 1, []⟩,
    ⟨(some 5), .mv (.t 11), none, 262656, 2, []⟩])
  (.seq (.reg [⟨(some 12), .mv (.t 3), none, 327680, 0, []⟩,
    ⟨(some 13), .mv (.t 5), none, 327936, 1, []⟩,
    ⟨(some 14), .conv .u32 (.t 13), none, 328192, 2, []⟩,
    ⟨(some 15), .bin .xor (.t 12) (.t 14), none, 328448, 3, []⟩,
    ⟨(some 16), .bin .mul (.t 15) (.k (.int .u32 16777619)), none, 328704, 4, []⟩,
    ⟨(some 3), .mv (.t 16), none, 328960, 5, []⟩])
  (.seq (.reg [⟨(some 17), .mv (.t 3), none, 393216, 0, []⟩,
    ⟨(some 18), .mv (.t 3), none, 393472, 1, []⟩,
    ⟨(some 19), .bin .shr (.t 18) (.k (.int .u64 15)), none, 393728, 2, []⟩,
    ⟨(some 20), .bin .xor (.t 17) (.t 19), none, 393984, 3, []⟩,
    ⟨(some 3), .mv (.t 20), none, 394240, 4, []⟩])
  (.seq (.reg [⟨(some 21), .mv (.t 3), none, 458752, 0, []⟩,
    ⟨(some 22), .bin .mul (.t 21) (.k (.int .u32 1540483477)), none, 459008, 1, []⟩,
    ⟨(some 3), .mv (.t 22), none, 459264, 2, []⟩])
  (.reg [⟨(some 23), .mv (.t 3), none, 524288, 0, []⟩,
    ⟨(some 24), .mv (.t 3), none, 524544, 1, []⟩,
    ⟨(some 25), .bin .shr (.t 24) (.k (.int .u64 13)), none, 524800, 2, []⟩,
    ⟨(some 26), .bin .xor (.t 23) (.t 25), none, 525056, 3, []⟩,
    ⟨(some 3), .mv (.t 26), none, 525312, 4, []⟩]))))))
  (.reg [⟨(some 27), .bin .add (.t 8) (.k (.int .i64 1)), none, 589824, 0, []⟩,
    ⟨(some 8), .mv (.t 27), none, 590080, 1, []⟩])))))))
 (.seq (.reg [⟨(some 28), .mv (.t 3), none, 655360, 0, []⟩,
   ⟨(some 29), .conv .i64 (.t 28), none, 655616, 1, []⟩,
   ⟨(some 2), .mv (.t 29), none, 655872, 2, []⟩])
 (.ret))))⟩
/-- loop.example/g00849/spec.l04Code -/
def F87 : F := ⟨1, 11, [.t 2],
 .seq (.reg [⟨(some 1), .box (.t 0), none, 0, 0, []⟩,
   ⟨(some 2), .mv (.k (.bool false)), none, 256, 1, []⟩])
 (.seq (.reg [⟨(some 3), .faddr 0 (.t 1), none, 65536, 0, []⟩,
   ⟨(some 4), .load 1 false (.t 3), none, 65792, 1, []⟩,
   ⟨(some 5), .call 37 [(.t 4), (.k (.int .i64 1)), (.k (.int .i64 4))] true, none, 66048, 2, []⟩,
   ⟨(some 6), .mv (.t 5), none, 66304, 3, []⟩,
   ⟨(some 7), .faddr 1 (.t 1), (some (some 6, true)), 66560, 4, []⟩,
   ⟨(some 8), .load 1 false (.t 7), (some (some 6, true)), 66816, 5, []⟩,
   ⟨(some 9), .call 37 [(.t 8), (.k (.int .i64 0)), (.k (.int .i64 3))] true, (some (some 6, true)), 67072, 6, []⟩,
   ⟨(some 10), .pick (.t 6) (.t 9) (.k (.bool false)), none, 67328, 7, []⟩,
   ⟨(some 2), .mv (.t 10), none, 67584, 8, []⟩])
 (.ret))⟩
/-- loop.example/g00849/spec.l01Mix -/
def F90 : F := ⟨1, 32, [.t 2],
 .seq (.reg [⟨(some 2), .mv (.k (.int .i64 0)), none, 0, 0, []⟩])
 (.seq (.reg [⟨(some 3), .mv (.k (.int .i64 2166136261)), none, 65536, 0, []⟩])
 (.seq (.seq (.reg [⟨(some 4), .mv (.k (.int .i64 0)), none, 131072, 0, []⟩])
 (.block 0 (.loop [0, 3, 4] []
  (.seq (.seq (.reg [⟨(some 5), .mv (.t 4), none, 196608, 0, []⟩,
    ⟨(some 6), .mv (.t 0), none, 196864, 1, []⟩,
    ⟨(some 7), .len false (.t 6), none, 197120, 2, []⟩,
    ⟨(some 8), .bin .lss (.t 5) (.t 7), none, 197376, 3, []⟩])
  (.cond (.t 8)
   (.skip)
   (.exit 0)))
  (.seq (.block 1 (.seq (.reg [⟨(some 11), .mv (.t 3), none, 327680, 0, []⟩,
    ⟨(some 12), .mv (.t 0), none, 327936, 1, []⟩,
    ⟨(some 13), .mv (.t 4), none, 328192, 2, []⟩,
    ⟨(some 14), .iaddr 1 (.t 12) (.t 13), none, 328448, 3, []⟩,
    ⟨(some 15), .load 1 false (.t 14), none, 328704, 4, []⟩,
    ⟨(some 16), .call 92 [(.t 15)] true, none, 328960, 5, []⟩,
    ⟨(some 17), .bin .xor (.t 11) (.t 16), none, 329216, 6, []⟩,
    ⟨(some 18), .bin .mul (.t 17) (.k (.int .i64 16777619)), none, 329472, 7, []⟩,
    ⟨(some 19), .call 92 [(.t 18)] true, none, 329728, 8, []⟩,
    ⟨(some 3), .mv (.t 19), none, 329984, 9, []⟩])
  (.seq (.reg [⟨(some 20), .mv (.t 3), none, 393216, 0, []⟩,
    ⟨(some 21), .mv (.t 3), none, 393472, 1, []⟩,
    ⟨(some 22), .bin .shr (.t 21) (.k (.int .u64 15)), none, 393728, 2, []⟩,
    ⟨(some 23), .bin .xor (.t 20) (.t 22), none, 393984, 3, []⟩,
    ⟨(some 3), .mv (.t 23), none, 394240, 4, []⟩])
  (.seq (.reg [⟨(some 24), .mv (.t 3), none, 458752, 0, []⟩,
    ⟨(some 25), .bin .mul (.t 24) (.k (.int .i64 1540483477)), none, 459008, 1, []⟩,
    ⟨(some 26), .call 92 [(.t 25)] true, none, 459264, 2, []⟩,
    ⟨(some 3), .mv (.t 26), none, 459520, 3, []⟩])
  (.reg [⟨(some 27), .mv (.t 3), none, 524288, 0, []⟩,
    ⟨(some 28), .mv (.t 3), none, 524544, 1, []⟩,
    ⟨(some 29), .bin .shr (.t 28) (.k (.int .u64 13)), none, 524800, 2, []⟩,
    ⟨(some 30), .bin .xor (.t 27) (.t 29), none, 525056, 3, []⟩,
    ⟨(some 3), .mv (.t 30), none, 525312, 4, []⟩])))))
  (.reg [⟨(some 9), .mv (.t 4), none, 262144, 0, []⟩,
    ⟨(some 10), .bin .add (.t 9) (.k (.int .i64 1)), none, 262400, 1, []⟩,
    ⟨(some 4), .mv (.t 10), none, 262656, 2, []⟩]))))))
 (.seq (.reg [⟨(some 31), .mv (.t 3), none, 589824, 0, []⟩,
   ⟨(some 2), .mv (.t 31), none, 590080, 1, []⟩])
 (.ret))))⟩
/-- loop.example/g00849/spec.l01Low -/
def F92 : F := ⟨1, 5, [.t 2],
 .seq (.reg [⟨(some 2), .mv (.k (.int .i64 0)), none, 0, 0, []⟩])
 (.seq (.reg [⟨(some 3), .mv (.t 0), none, 65536, 0, []⟩,
   ⟨(some 4), .bin .and (.t 3) (.k (.int .i64 4294967295)), none, 65792, 1, []⟩,
   ⟨(some 2), .mv (.t 4), none, 66048, 2, []⟩])
 (.ret))⟩
def fns : Nat → Option F
  | 3 => some F3
  | 4 => some F4
  | 8 => some F8
  | 9 => some F9
  | 10 => some F10
  | 11 => some F11
  | 12 => some F12
  | 13 => some F13
  | 14 => some F14
  | 15 => some F15
  | 30 => some F30
  | 31 => some F31
  | 32 => some F32
  | 33 => some F33
  | 34 => some F34
  | 35 => some F35
  | 36 => some F36
  | 37 => some F37
  | 38 => some F38
  | 39 => some F39
  | 40 => some F40
  | 41 => some F41
  | 42 => some F42
  | 43 => some F43
  | 44 => some F44
  | 45 => some F45
  | 46 => some F46
  | 47 => some F47
  | 48 => some F48
  | 49 => some F49
  | 50 => some F50
  | 51 => some F51
  | 69 => some F69
  | 70 => some F70
  | 71 => some F71
  | 72 => some F72
  | 73 => some F73
  | 74 => some F74
  | 75 => some F75
  | 76 => some F76
  | 83 => some F83
  | 84 => some F84
  | 85 => some F85
  | 86 => some F86
  | 87 => some F87
  | 90 => some F90
  | 92 => some F92
  | _ => none
def code : Prog := ⟨fns, md, fun _ => none⟩
theorem fn3 : code.fn 3 = some F3 := rfl
theorem fn4 : code.fn 4 = some F4 := rfl
theorem fn8 : code.fn 8 = some F8 := rfl
theorem fn9 : code.fn 9 = some F9 := rfl
theorem fn10 : code.fn 10 = some F10 := rfl
theorem fn11 : code.fn 11 = some F11 := rfl
theorem fn12 : code.fn 12 = some F12 := rfl
theorem fn13 : code.fn 13 = some F13 := rfl
theorem fn14 : code.fn 14 = some F14 := rfl
theorem fn15 : code.fn 15 = some F15 := rfl
theorem fn30 : code.fn 30 = some F30 := rfl
theorem fn31 : code.fn 31 = some F31 := rfl
theorem fn32 : code.fn 32 = some F32 := rfl
theorem fn33 : code.fn 33 = some F33 := rfl
theorem fn34 : code.fn 34 = some F34 := rfl
theorem fn35 : code.fn 35 = some F35 := rfl
theorem fn36 : code.fn 36 = some F36 := rfl
theorem fn37 : code.fn 37 = some F37 := rfl
theorem fn38 : code.fn 38 = some F38 := rfl
theorem fn39 : code.fn 39 = some F39 := rfl
theorem fn40 : code.fn 40 = some F40 := rfl
theorem fn41 : code.fn 41 = some F41 := rfl
theorem fn42 : code.fn 42 = some F42 := rfl
theorem fn43 : code.fn 43 = some F43 := rfl
theorem fn44 : code.fn 44 = some F44 := rfl
theorem fn45 : code.fn 45 = some F45 := rfl
theorem fn46 : code.fn 46 = some F46 := rfl
theorem fn47 : code.fn 47 = some F47 := rfl
theorem fn48 : code.fn 48 = some F48 := rfl
theorem fn49 : code.fn 49 = some F49 := rfl
theorem fn50 : code.fn 50 = some F50 := rfl
theorem fn51 : code.fn 51 = some F51 := rfl
theorem fn69 : code.fn 69 = some F69 := rfl
theorem fn70 : code.fn 70 = some F70 := rfl
theorem fn71 : code.fn 71 = some F71 := rfl
theorem fn72 : code.fn 72 = some F72 := rfl
theorem fn73 : code.fn 73 = some F73 := rfl
theorem fn74 : code.fn 74 = some F74 := rfl
theorem fn75 : code.fn 75 = some F75 := rfl
theorem fn76 : code.fn 76 = some F76 := rfl
theorem fn83 : code.fn 83 = some F83 := rfl
theorem fn84 : code.fn 84 = some F84 := rfl
theorem fn85 : code.fn 85 = some F85 := rfl
theorem fn86 : code.fn 86 = some F86 := rfl
theorem fn87 : code.fn 87 = some F87 := rfl
theorem fn90 : code.fn 90 = some F90 := rfl
theorem fn92 : code.fn 92 = some F92 := rfl
theorem rcall {O : Oracle} {st : St} {Q : Ex → St → Prop} {fs : List Fr} {d : Option Nat} {b i : Nat} {ap : List X} {r : List IOp} (f : Nat) (xs : List X) (fl : Bool) : RunO O code.md (⟨d, .call f xs fl, none, b, i, ap⟩ :: r) fs st Q = RunQ O code.md (callVal O st b f (evalXs st xs) fl) d r fs st Q := R_call f xs fl rfl
end Go.Ae.R1
