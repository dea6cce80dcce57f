/- The code of the functions, for the evaluator. -/
import Derived.Test.YtnfghcflpnlbiaaAeL6
import Derived.Test.YtnfghcflpnlbiaaC0N
namespace Go.Ae.C3

def md : Nat → Mode
  | 155 => .view
  | _ => .val
/-- loop.example/g00849/laws.FnExactWideWhole -/
def F10 : F := ⟨1, 27, [.t 2],
 .seq (.reg [⟨(some 1), .box (.t 0), none, 0, 0, []⟩,
   ⟨(some 2), .mv (.k (.bool false)), none, 256, 1, []⟩])
 (.seq (.reg [⟨(some 3), .mv (.k (.int .i64 1048576)), none, 65536, 0, []⟩])
 (.seq (.reg [⟨(some 7), .load 5 true (.t 1), none, 131072, 0, []⟩,
   ⟨(some 8), .mv (.t 3), none, 131328, 1, []⟩,
   ⟨(some 9), .call 52 [(.t 7), (.t 8)] true, none, 131584, 2, []⟩,
   ⟨(some 3), .mv (.t 9), none, 131840, 3, []⟩])
 (.seq (.seq (.reg [⟨(some 10), .mv (.t 3), none, 196608, 0, []⟩,
   ⟨(some 11), .bin .lss (.t 10) (.k (.int .i64 0)), none, 196864, 1, []⟩])
 (.cond (.t 11)
  (.seq (.reg [⟨(some 2), .mv (.k (.bool true)), none, 262144, 0, []⟩])
  (.ret))
  (.skip)))
 (.seq (.reg [⟨(some 12), .load 5 true (.t 1), none, 327680, 0, []⟩,
   ⟨(some 13), .call 54 [(.t 12)] false, none, 327936, 1, []⟩,
   ⟨(some 14), .call 53 [(.t 13)] true, none, 328192, 2, []⟩,
   ⟨(some 4), .mv (.t 14), none, 328448, 3, []⟩])
 (.seq (.reg [⟨(some 15), .load 5 true (.t 1), none, 393216, 0, []⟩,
   ⟨(some 16), .call 54 [(.t 15)] false, none, 393472, 1, []⟩,
   ⟨(some 5), .alloc [(.int .i64 0), (.int .i64 0), (.int .i64 0), (.int .i64 0), (.nil true 1)], none, 393728, 2, []⟩,
   ⟨none, .store 5 (.t 5) (.t 16), none, 393984, 3, []⟩])
 (.seq (.reg [⟨(some 17), .load 5 true (.t 5), none, 458752, 0, []⟩,
   ⟨(some 18), .call 50 [(.t 17)] true, none, 459008, 1, []⟩,
   ⟨(some 6), .mv (.t 18), none, 459264, 2, []⟩])
 (.seq (.seq (.reg [⟨(some 19), .mv (.t 6), none, 524288, 0, []⟩,
   ⟨(some 20), .mv (.t 4), none, 524544, 1, []⟩,
   ⟨(some 21), .eqv true false [.b] (.t 19) (.t 20), none, 524800, 2, []⟩])
 (.cond (.t 21)
  (.seq (.reg [⟨(some 2), .mv (.k (.bool false)), none, 589824, 0, []⟩])
  (.ret))
  (.skip)))
 (.seq (.seq (.reg [⟨(some 22), .load 5 true (.t 5), none, 655360, 0, []⟩,
   ⟨(some 23), .load 5 true (.t 1), none, 655616, 1, []⟩,
   ⟨(some 24), .call 54 [(.t 23)] false, none, 655872, 2, []⟩,
   ⟨(some 25), .call 43 [(.t 22), (.t 24)] true, none, 656128, 3, []⟩,
   ⟨(some 26), .not (.t 25), none, 656384, 4, []⟩])
 (.cond (.t 26)
  (.seq (.reg [⟨(some 2), .mv (.k (.bool false)), none, 720896, 0, []⟩])
  (.ret))
  (.skip)))
 (.seq (.reg [⟨(some 2), .mv (.k (.bool true)), none, 786432, 0, []⟩])
 (.ret))))))))))⟩
/-- loop.example/g00849/laws.toCode -/
def F18 : F := ⟨1, 11, [.cell 2 2 true],
 .seq (.reg [⟨(some 1), .box (.t 0), none, 0, 0, []⟩,
   ⟨(some 2), .alloc [(.int .i64 0), (.int .i64 0)], none, 256, 1, []⟩])
 (.seq (.reg [⟨(some 3), .alloc [(.int .i64 0), (.int .i64 0)], none, 65536, 0, []⟩])
 (.seq (.reg [⟨(some 4), .faddr 0 (.t 1), none, 131072, 0, []⟩,
   ⟨(some 5), .load 1 false (.t 4), none, 131328, 1, []⟩,
   ⟨(some 6), .faddr 0 (.t 3), none, 131584, 2, []⟩,
   ⟨none, .store 1 (.t 6) (.t 5), none, 131840, 3, []⟩])
 (.seq (.reg [⟨(some 7), .faddr 1 (.t 1), none, 196608, 0, []⟩,
   ⟨(some 8), .load 1 false (.t 7), none, 196864, 1, []⟩,
   ⟨(some 9), .faddr 1 (.t 3), none, 197120, 2, []⟩,
   ⟨none, .store 1 (.t 9) (.t 8), none, 197376, 3, []⟩])
 (.seq (.reg [⟨(some 10), .load 2 true (.t 3), none, 262144, 0, []⟩,
   ⟨none, .store 2 (.t 2) (.t 10), none, 262400, 1, []⟩])
 (.ret)))))⟩
/-- loop.example/g00849/laws.eqWide -/
def F43 : F := ⟨2, 27, [.t 4],
 .seq (.reg [⟨(some 2), .box (.t 0), none, 0, 0, []⟩,
   ⟨(some 3), .box (.t 1), none, 256, 1, []⟩,
   ⟨(some 4), .mv (.k (.bool false)), none, 512, 2, []⟩])
 (.seq (.seq (.reg [⟨(some 5), .faddr 0 (.t 2), none, 65536, 0, []⟩,
   ⟨(some 6), .load 2 true (.t 5), none, 65792, 1, []⟩,
   ⟨(some 7), .faddr 0 (.t 3), none, 66048, 2, []⟩,
   ⟨(some 8), .load 2 true (.t 7), none, 66304, 3, []⟩,
   ⟨(some 9), .call 91 [(.t 6), (.t 8)] true, none, 66560, 4, []⟩,
   ⟨(some 10), .not (.t 9), none, 66816, 5, []⟩])
 (.cond (.t 10)
  (.seq (.reg [⟨(some 4), .mv (.k (.bool false)), none, 131072, 0, []⟩])
  (.ret))
  (.skip)))
 (.seq (.seq (.reg [⟨(some 11), .faddr 2 (.t 2), none, 196608, 0, []⟩,
   ⟨(some 12), .load 1 false (.t 11), none, 196864, 1, []⟩,
   ⟨(some 13), .faddr 2 (.t 3), none, 197120, 2, []⟩,
   ⟨(some 14), .load 1 false (.t 13), none, 197376, 3, []⟩,
   ⟨(some 15), .bin .neq (.t 12) (.t 14), none, 197632, 4, []⟩])
 (.cond (.t 15)
  (.seq (.reg [⟨(some 4), .mv (.k (.bool false)), none, 262144, 0, []⟩])
  (.ret))
  (.skip)))
 (.seq (.seq (.reg [⟨(some 16), .faddr 3 (.t 2), none, 327680, 0, []⟩,
   ⟨(some 17), .load 1 false (.t 16), none, 327936, 1, []⟩,
   ⟨(some 18), .faddr 3 (.t 3), none, 328192, 2, []⟩,
   ⟨(some 19), .load 1 false (.t 18), none, 328448, 3, []⟩,
   ⟨(some 20), .bin .neq (.t 17) (.t 19), none, 328704, 4, []⟩])
 (.cond (.t 20)
  (.seq (.reg [⟨(some 4), .mv (.k (.bool false)), none, 393216, 0, []⟩])
  (.ret))
  (.skip)))
 (.seq (.seq (.reg [⟨(some 21), .faddr 4 (.t 2), none, 458752, 0, []⟩,
   ⟨(some 22), .load 1 false (.t 21), none, 459008, 1, []⟩,
   ⟨(some 23), .faddr 4 (.t 3), none, 459264, 2, []⟩,
   ⟨(some 24), .load 1 false (.t 23), none, 459520, 3, []⟩,
   ⟨(some 25), .call 92 [(.t 22), (.t 24)] true, none, 459776, 4, []⟩,
   ⟨(some 26), .not (.t 25), none, 460032, 5, []⟩])
 (.cond (.t 26)
  (.seq (.reg [⟨(some 4), .mv (.k (.bool false)), none, 524288, 0, []⟩])
  (.ret))
  (.skip)))
 (.seq (.reg [⟨(some 4), .mv (.k (.bool true)), none, 589824, 0, []⟩])
 (.ret))))))⟩
/-- loop.example/g00849/impl.WideOk -/
def F49 : F := ⟨1, 33, [.t 2],
 .seq (.reg [⟨(some 1), .box (.t 0), none, 0, 0, []⟩,
   ⟨(some 2), .mv (.k (.bool false)), none, 256, 1, []⟩])
 (.seq (.seq (.reg [⟨(some 3), .faddr 0 (.t 1), none, 65536, 0, []⟩,
   ⟨(some 4), .load 2 true (.t 3), none, 65792, 1, []⟩,
   ⟨(some 5), .call 84 [(.t 4)] true, none, 66048, 2, []⟩,
   ⟨(some 6), .not (.t 5), none, 66304, 3, []⟩,
   ⟨(some 7), .mv (.t 6), none, 66560, 4, []⟩,
   ⟨(some 8), .faddr 2 (.t 1), (some (some 7, false)), 66816, 5, []⟩,
   ⟨(some 9), .load 1 false (.t 8), (some (some 7, false)), 67072, 6, []⟩,
   ⟨(some 10), .call 86 [(.t 9), (.k (.int .i64 1)), (.k (.int .i64 8))] true, (some (some 7, false)), 67328, 7, []⟩,
   ⟨(some 11), .not (.t 10), (some (some 7, false)), 67584, 8, []⟩,
   ⟨(some 12), .pick (.t 7) (.k (.bool true)) (.t 11), none, 67840, 9, []⟩,
   ⟨(some 13), .mv (.t 12), none, 68096, 10, []⟩,
   ⟨(some 14), .faddr 3 (.t 1), (some (some 13, false)), 68352, 11, []⟩,
   ⟨(some 15), .load 1 false (.t 14), (some (some 13, false)), 68608, 12, []⟩,
   ⟨(some 16), .call 86 [(.t 15), (.k (.int .i64 0)), (.k (.int .i64 256))] true, (some (some 13, false)), 68864, 13, []⟩,
   ⟨(some 17), .not (.t 16), (some (some 13, false)), 69120, 14, []⟩,
   ⟨(some 18), .pick (.t 13) (.k (.bool true)) (.t 17), none, 69376, 15, []⟩,
   ⟨(some 19), .mv (.t 18), none, 69632, 16, []⟩,
   ⟨(some 20), .faddr 4 (.t 1), (some (some 19, false)), 69888, 17, []⟩,
   ⟨(some 21), .load 1 false (.t 20), (some (some 19, false)), 70144, 18, []⟩,
   ⟨(some 22), .len false (.t 21), (some (some 19, false)), 70400, 19, []⟩,
   ⟨(some 23), .faddr 0 (.t 1), (some (some 19, false)), 70656, 20, []⟩,
   ⟨(some 24), .load 2 true (.t 23), (some (some 19, false)), 70912, 21, []⟩,
   ⟨(some 25), .call 96 [(.t 24)] true, (some (some 19, false)), 71168, 22, []⟩,
   ⟨(some 26), .bin .neq (.t 22) (.t 25), (some (some 19, false)), 71424, 23, []⟩,
   ⟨(some 27), .pick (.t 19) (.k (.bool true)) (.t 26), none, 71680, 24, []⟩])
 (.cond (.t 27)
  (.seq (.reg [⟨(some 2), .mv (.k (.bool false)), none, 131072, 0, []⟩])
  (.ret))
  (.skip)))
 (.seq (.reg [⟨(some 28), .faddr 4 (.t 1), none, 196608, 0, []⟩,
   ⟨(some 29), .load 1 false (.t 28), none, 196864, 1, []⟩,
   ⟨(some 30), .mkf 98 [(.t 1)], none, 197120, 2, []⟩,
   ⟨(some 31), .call 97 [(.t 29), (.t 30)] true, none, 197376, 3, []⟩,
   ⟨(some 32), .not (.t 31), none, 197632, 4, []⟩,
   ⟨(some 2), .mv (.t 32), none, 197888, 5, []⟩])
 (.ret)))⟩
/-- loop.example/g00849/impl.WideWhole -/
def F50 : F := ⟨1, 22, [.t 2],
 .seq (.reg [⟨(some 1), .box (.t 0), none, 0, 0, []⟩,
   ⟨(some 2), .mv (.k (.bool false)), none, 256, 1, []⟩])
 (.seq (.reg [⟨(some 3), .load 5 true (.t 1), none, 65536, 0, []⟩,
   ⟨(some 4), .call 49 [(.t 3)] true, none, 65792, 1, []⟩,
   ⟨(some 5), .mv (.t 4), none, 66048, 2, []⟩,
   ⟨(some 6), .faddr 4 (.t 1), (some (some 5, true)), 66304, 3, []⟩,
   ⟨(some 7), .load 1 false (.t 6), (some (some 5, true)), 66560, 4, []⟩,
   ⟨(some 8), .faddr 0 (.t 1), (some (some 5, true)), 66816, 5, []⟩,
   ⟨(some 9), .load 2 true (.t 8), (some (some 5, true)), 67072, 6, []⟩,
   ⟨(some 10), .faddr 2 (.t 1), (some (some 5, true)), 67328, 7, []⟩,
   ⟨(some 11), .load 1 false (.t 10), (some (some 5, true)), 67584, 8, []⟩,
   ⟨(some 12), .load 5 true (.t 1), (some (some 5, true)), 67840, 9, []⟩,
   ⟨(some 13), .faddr 4 (.t 1), (some (some 5, true)), 68096, 10, []⟩,
   ⟨(some 14), .load 1 false (.t 13), (some (some 5, true)), 68352, 11, []⟩,
   ⟨(some 15), .faddr 3 (.t 1), (some (some 5, true)), 68608, 12, []⟩,
   ⟨(some 16), .load 1 false (.t 15), (some (some 5, true)), 68864, 13, []⟩,
   ⟨(some 17), .call 95 [(.t 12), (.t 14), (.k (.int .i64 0)), (.t 16)] true, (some (some 5, true)), 69120, 14, []⟩,
   ⟨(some 18), .call 90 [(.t 9), (.t 11), (.t 17)] false, (some (some 5, true)), 69376, 15, []⟩,
   ⟨(some 19), .field 4 1 false (.t 18), (some (some 5, true)), 69632, 16, []⟩,
   ⟨(some 20), .call 100 [(.t 7), (.t 19)] true, (some (some 5, true)), 69888, 17, []⟩,
   ⟨(some 21), .pick (.t 5) (.t 20) (.k (.bool false)), none, 70144, 18, []⟩,
   ⟨(some 2), .mv (.t 21), none, 70400, 19, []⟩])
 (.ret))⟩
/-- loop.example/g00849/laws.szWide -/
def F52 : F := ⟨2, 12, [.t 4],
 .seq (.reg [⟨(some 2), .box (.t 0), none, 0, 0, []⟩,
   ⟨(some 4), .mv (.k (.int .i64 0)), none, 256, 1, []⟩])
 (.seq (.reg [⟨(some 5), .faddr 4 (.t 2), none, 65536, 0, []⟩,
   ⟨(some 6), .load 1 false (.t 5), none, 65792, 1, []⟩,
   ⟨(some 7), .mv (.t 1), none, 66048, 2, []⟩,
   ⟨(some 8), .call 102 [(.t 6), (.t 7)] true, none, 66304, 3, []⟩,
   ⟨(some 1), .mv (.t 8), none, 66560, 4, []⟩])
 (.seq (.seq (.reg [⟨(some 9), .mv (.t 1), none, 131072, 0, []⟩,
   ⟨(some 10), .bin .lss (.t 9) (.k (.int .i64 0)), none, 131328, 1, []⟩])
 (.cond (.t 10)
  (.seq (.reg [⟨(some 4), .mv (.k (.int .i64 (-1))), none, 196608, 0, []⟩])
  (.ret))
  (.skip)))
 (.seq (.reg [⟨(some 11), .mv (.t 1), none, 262144, 0, []⟩,
   ⟨(some 4), .mv (.t 11), none, 262400, 1, []⟩])
 (.ret))))⟩
/-- loop.example/g00849/spec.WideWhole -/
def F53 : F := ⟨1, 18, [.t 2],
 .seq (.reg [⟨(some 1), .box (.t 0), none, 0, 0, []⟩,
   ⟨(some 2), .mv (.k (.bool false)), none, 256, 1, []⟩])
 (.seq (.reg [⟨(some 3), .load 5 true (.t 1), none, 65536, 0, []⟩,
   ⟨(some 4), .call 103 [(.t 3)] true, none, 65792, 1, []⟩,
   ⟨(some 5), .mv (.t 4), none, 66048, 2, []⟩,
   ⟨(some 6), .load 5 true (.t 1), (some (some 5, true)), 66304, 3, []⟩,
   ⟨(some 7), .faddr 0 (.t 1), (some (some 5, true)), 66560, 4, []⟩,
   ⟨(some 8), .load 2 true (.t 7), (some (some 5, true)), 66816, 5, []⟩,
   ⟨(some 9), .faddr 2 (.t 1), (some (some 5, true)), 67072, 6, []⟩,
   ⟨(some 10), .load 1 false (.t 9), (some (some 5, true)), 67328, 7, []⟩,
   ⟨(some 11), .load 5 true (.t 1), (some (some 5, true)), 67584, 8, []⟩,
   ⟨(some 12), .faddr 3 (.t 1), (some (some 5, true)), 67840, 9, []⟩,
   ⟨(some 13), .load 1 false (.t 12), (some (some 5, true)), 68096, 10, []⟩,
   ⟨(some 14), .call 105 [(.t 11), (.k (.int .i64 0)), (.t 13)] true, (some (some 5, true)), 68352, 11, []⟩,
   ⟨(some 15), .call 89 [(.t 8), (.t 10), (.t 14)] false, (some (some 5, true)), 68608, 12, []⟩,
   ⟨(some 16), .call 104 [(.t 6), (.t 15)] true, (some (some 5, true)), 68864, 13, []⟩,
   ⟨(some 17), .pick (.t 5) (.t 16) (.k (.bool false)), none, 69120, 14, []⟩,
   ⟨(some 2), .mv (.t 17), none, 69376, 15, []⟩])
 (.ret))⟩
/-- loop.example/g00849/laws.toWide -/
def F54 : F := ⟨1, 19, [.cell 2 5 true],
 .seq (.reg [⟨(some 1), .box (.t 0), none, 0, 0, []⟩,
   ⟨(some 2), .alloc [(.int .i64 0), (.int .i64 0), (.int .i64 0), (.int .i64 0), (.nil true 1)], none, 256, 1, []⟩])
 (.seq (.reg [⟨(some 3), .alloc [(.int .i64 0), (.int .i64 0), (.int .i64 0), (.int .i64 0), (.nil true 1)], none, 65536, 0, []⟩])
 (.seq (.reg [⟨(some 4), .faddr 0 (.t 1), none, 131072, 0, []⟩,
   ⟨(some 5), .load 2 true (.t 4), none, 131328, 1, []⟩,
   ⟨(some 6), .call 18 [(.t 5)] true, none, 131584, 2, []⟩,
   ⟨(some 7), .faddr 0 (.t 3), none, 131840, 3, []⟩,
   ⟨none, .store 2 (.t 7) (.t 6), none, 132096, 4, []⟩])
 (.seq (.reg [⟨(some 8), .faddr 2 (.t 1), none, 196608, 0, []⟩,
   ⟨(some 9), .load 1 false (.t 8), none, 196864, 1, []⟩,
   ⟨(some 10), .faddr 2 (.t 3), none, 197120, 2, []⟩,
   ⟨none, .store 1 (.t 10) (.t 9), none, 197376, 3, []⟩])
 (.seq (.reg [⟨(some 11), .faddr 3 (.t 1), none, 262144, 0, []⟩,
   ⟨(some 12), .load 1 false (.t 11), none, 262400, 1, []⟩,
   ⟨(some 13), .faddr 3 (.t 3), none, 262656, 2, []⟩,
   ⟨none, .store 1 (.t 13) (.t 12), none, 262912, 3, []⟩])
 (.seq (.reg [⟨(some 14), .faddr 4 (.t 1), none, 327680, 0, []⟩,
   ⟨(some 15), .load 1 false (.t 14), none, 327936, 1, []⟩,
   ⟨(some 16), .call 106 [(.t 15)] false, none, 328192, 2, []⟩,
   ⟨(some 17), .faddr 4 (.t 3), none, 328448, 3, []⟩,
   ⟨none, .store 1 (.t 17) (.t 16), none, 328704, 4, []⟩])
 (.seq (.reg [⟨(some 18), .load 5 true (.t 3), none, 393216, 0, []⟩,
   ⟨none, .store 5 (.t 2) (.t 18), none, 393472, 1, []⟩])
 (.ret)))))))⟩
/-- loop.example/g00849/spec.l00In -/
def F77 : F := ⟨3, 15, [.t 6],
 .seq (.reg [⟨(some 6), .mv (.k (.bool false)), none, 0, 0, []⟩])
 (.seq (.reg [⟨(some 7), .mv (.t 0), none, 65536, 0, []⟩,
   ⟨(some 8), .mv (.t 1), none, 65792, 1, []⟩,
   ⟨(some 9), .bin .geq (.t 7) (.t 8), none, 66048, 2, []⟩,
   ⟨(some 10), .mv (.t 9), none, 66304, 3, []⟩,
   ⟨(some 11), .mv (.t 0), (some (some 10, true)), 66560, 4, []⟩,
   ⟨(some 12), .mv (.t 2), (some (some 10, true)), 66816, 5, []⟩,
   ⟨(some 13), .bin .leq (.t 11) (.t 12), (some (some 10, true)), 67072, 6, []⟩,
   ⟨(some 14), .pick (.t 10) (.t 13) (.k (.bool false)), none, 67328, 7, []⟩,
   ⟨(some 6), .mv (.t 14), none, 67584, 8, []⟩])
 (.ret))⟩
/-- (loop.example/g00849/impl.Code).encoded -/
def F80 : F := ⟨2, 12, [.t 4],
 .seq (.reg [⟨(some 2), .box (.t 0), none, 0, 0, []⟩,
   ⟨(some 4), .nil0 true 1, none, 256, 1, []⟩])
 (.seq (.reg [⟨(some 5), .faddr 0 (.t 2), none, 65536, 0, []⟩,
   ⟨(some 6), .load 1 false (.t 5), none, 65792, 1, []⟩,
   ⟨(some 7), .faddr 1 (.t 2), none, 66048, 2, []⟩,
   ⟨(some 8), .load 1 false (.t 7), none, 66304, 3, []⟩,
   ⟨(some 9), .call 129 [(.t 6), (.t 8)] false, none, 66560, 4, []⟩,
   ⟨(some 10), .mv (.t 1), none, 66816, 5, []⟩,
   ⟨(some 11), .call 131 [(.t 9), (.t 10)] false, none, 67072, 6, []⟩,
   ⟨(some 4), .mv (.t 11), none, 67328, 7, []⟩])
 (.ret))⟩
/-- loop.example/g00849/impl.CodeOk -/
def F84 : F := ⟨1, 11, [.t 2],
 .seq (.reg [⟨(some 1), .box (.t 0), none, 0, 0, []⟩,
   ⟨(some 2), .mv (.k (.bool false)), none, 256, 1, []⟩])
 (.seq (.reg [⟨(some 3), .faddr 0 (.t 1), none, 65536, 0, []⟩,
   ⟨(some 4), .load 1 false (.t 3), none, 65792, 1, []⟩,
   ⟨(some 5), .call 86 [(.t 4), (.k (.int .i64 1)), (.k (.int .i64 4))] true, none, 66048, 2, []⟩,
   ⟨(some 6), .mv (.t 5), none, 66304, 3, []⟩,
   ⟨(some 7), .faddr 1 (.t 1), (some (some 6, true)), 66560, 4, []⟩,
   ⟨(some 8), .load 1 false (.t 7), (some (some 6, true)), 66816, 5, []⟩,
   ⟨(some 9), .call 86 [(.t 8), (.k (.int .i64 0)), (.k (.int .i64 3))] true, (some (some 6, true)), 67072, 6, []⟩,
   ⟨(some 10), .pick (.t 6) (.t 9) (.k (.bool false)), none, 67328, 7, []⟩,
   ⟨(some 2), .mv (.t 10), none, 67584, 8, []⟩])
 (.ret))⟩
/-- loop.example/g00849/impl.between -/
def F86 : F := ⟨3, 15, [.t 6],
 .seq (.reg [⟨(some 6), .mv (.k (.bool false)), none, 0, 0, []⟩])
 (.seq (.reg [⟨(some 7), .mv (.t 0), none, 65536, 0, []⟩,
   ⟨(some 8), .mv (.t 1), none, 65792, 1, []⟩,
   ⟨(some 9), .bin .geq (.t 7) (.t 8), none, 66048, 2, []⟩,
   ⟨(some 10), .mv (.t 9), none, 66304, 3, []⟩,
   ⟨(some 11), .mv (.t 0), (some (some 10, true)), 66560, 4, []⟩,
   ⟨(some 12), .mv (.t 2), (some (some 10, true)), 66816, 5, []⟩,
   ⟨(some 13), .bin .leq (.t 11) (.t 12), (some (some 10, true)), 67072, 6, []⟩,
   ⟨(some 14), .pick (.t 10) (.t 13) (.k (.bool false)), none, 67328, 7, []⟩,
   ⟨(some 6), .mv (.t 14), none, 67584, 8, []⟩])
 (.ret))⟩
/-- loop.example/g00849/spec.l04Code -/
def F88 : F := ⟨1, 11, [.t 2],
 .seq (.reg [⟨(some 1), .box (.t 0), none, 0, 0, []⟩,
   ⟨(some 2), .mv (.k (.bool false)), none, 256, 1, []⟩])
 (.seq (.reg [⟨(some 3), .faddr 0 (.t 1), none, 65536, 0, []⟩,
   ⟨(some 4), .load 1 false (.t 3), none, 65792, 1, []⟩,
   ⟨(some 5), .call 77 [(.t 4), (.k (.int .i64 1)), (.k (.int .i64 4))] true, none, 66048, 2, []⟩,
   ⟨(some 6), .mv (.t 5), none, 66304, 3, []⟩,
   ⟨(some 7), .faddr 1 (.t 1), (some (some 6, true)), 66560, 4, []⟩,
   ⟨(some 8), .load 1 false (.t 7), (some (some 6, true)), 66816, 5, []⟩,
   ⟨(some 9), .call 77 [(.t 8), (.k (.int .i64 0)), (.k (.int .i64 3))] true, (some (some 6, true)), 67072, 6, []⟩,
   ⟨(some 10), .pick (.t 6) (.t 9) (.k (.bool false)), none, 67328, 7, []⟩,
   ⟨(some 2), .mv (.t 10), none, 67584, 8, []⟩])
 (.ret))⟩
/-- loop.example/g00849/spec.l05Of -/
def F89 : F := ⟨3, 80, [.cell 6 5 true],
 .seq (.reg [⟨(some 3), .box (.t 0), none, 0, 0, []⟩,
   ⟨(some 6), .alloc [(.int .i64 0), (.int .i64 0), (.int .i64 0), (.int .i64 0), (.nil true 1)], none, 256, 1, []⟩])
 (.seq (.reg [⟨(some 14), .load 2 true (.t 3), none, 65536, 0, []⟩,
   ⟨(some 15), .mv (.t 1), none, 65792, 1, []⟩,
   ⟨(some 16), .mv (.t 2), none, 66048, 2, []⟩,
   ⟨(some 17), .len true (.t 16), none, 66304, 3, []⟩,
   ⟨(some 18), .build [(.int .i64 0), (.int .i64 0), (.int .i64 0), (.int .i64 0), (.nil true 1)] [(0, 2, (.t 14)), (2, 1, (.t 15)), (3, 1, (.t 17))], none, 66560, 4, []⟩,
   ⟨(some 7), .alloc [(.int .i64 0), (.int .i64 0), (.int .i64 0), (.int .i64 0), (.nil true 1)], none, 66816, 5, []⟩,
   ⟨none, .store 5 (.t 7) (.t 18), none, 67072, 6, []⟩])
 (.seq (.reg [⟨(some 19), .load 2 true (.t 3), none, 131072, 0, []⟩,
   ⟨(some 20), .mv (.t 1), none, 131328, 1, []⟩,
   ⟨(some 21), .faddr 3 (.t 7), none, 131584, 2, []⟩,
   ⟨(some 22), .load 1 false (.t 21), none, 131840, 3, []⟩,
   ⟨(some 23), .call 136 [(.t 19), (.t 20), (.t 22)] true, none, 132096, 4, []⟩,
   ⟨(some 8), .mv (.t 23), none, 132352, 5, []⟩])
 (.seq (.reg [⟨(some 24), .bslice true 1 [(.str ByteArray.empty)] 0 [], none, 196608, 0, []⟩,
   ⟨(some 9), .mv (.t 24), none, 196864, 1, []⟩])
 (.seq (.seq (.reg [⟨(some 10), .mv (.k (.int .i64 0)), none, 262144, 0, []⟩])
 (.block 0 (.loop [1, 2, 3, 6, 7, 8, 9, 10] [0, 1, 2, 3, 4, 5, 256, 261, 66816, 66821, 67073, 67074, 67075, 67076, 67077, 196608, 1049600, 1049601, 1049602, 1049603, 1050112, 1050113, 1050114, 1050115, 1050625, 1114369, 1114370, 1114371, 1114372, 1114373]
  (.seq (.seq (.reg [⟨(some 25), .mv (.t 10), none, 327680, 0, []⟩,
    ⟨(some 26), .faddr 0 (.t 3), none, 327936, 1, []⟩,
    ⟨(some 27), .load 1 false (.t 26), none, 328192, 2, []⟩,
    ⟨(some 28), .bin .lss (.t 25) (.t 27), none, 328448, 3, []⟩])
  (.cond (.t 28)
   (.skip)
   (.exit 0)))
  (.seq (.block 1 (.seq (.reg [⟨(some 31), .bslice true 1 [(.int .u8 0)] 0 [], none, 458752, 0, []⟩,
    ⟨(some 11), .mv (.t 31), none, 459008, 1, []⟩])
  (.seq (.seq (.reg [⟨(some 12), .mv (.k (.int .i64 0)), none, 524288, 0, []⟩])
  (.block 2 (.loop [1, 2, 3, 6, 7, 8, 9, 10, 11, 12] [0, 1, 2, 3, 4, 5, 256, 261, 66816, 66821, 67073, 67074, 67075, 67076, 67077, 196608, 458752, 983808, 984064, 1049600, 1049601, 1049602, 1049603, 1050112, 1050113, 1050114, 1050115, 1050625, 1114369, 1114370, 1114371, 1114372, 1114373]
   (.seq (.seq (.reg [⟨(some 32), .mv (.t 12), none, 589824, 0, []⟩,
     ⟨(some 33), .mv (.t 8), none, 590080, 1, []⟩,
     ⟨(some 34), .bin .lss (.t 32) (.t 33), none, 590336, 2, []⟩])
   (.cond (.t 34)
    (.skip)
    (.exit 2)))
   (.seq (.block 3 (.seq (.reg [⟨(some 37), .mv (.t 12), none, 720896, 0, []⟩,
     ⟨(some 38), .mv (.t 1), none, 721152, 1, []⟩,
     ⟨(some 39), .bin .quo (.t 37) (.t 38), none, 721408, 2, []⟩,
     ⟨(some 40), .faddr 0 (.t 3), none, 721664, 3, []⟩,
     ⟨(some 41), .load 1 false (.t 40), none, 721920, 4, []⟩,
     ⟨(some 42), .bin .mul (.t 39) (.t 41), none, 722176, 5, []⟩,
     ⟨(some 43), .mv (.t 1), none, 722432, 6, []⟩,
     ⟨(some 44), .bin .mul (.t 42) (.t 43), none, 722688, 7, []⟩,
     ⟨(some 45), .mv (.t 10), none, 722944, 8, []⟩,
     ⟨(some 46), .mv (.t 1), none, 723200, 9, []⟩,
     ⟨(some 47), .bin .mul (.t 45) (.t 46), none, 723456, 10, []⟩,
     ⟨(some 48), .bin .add (.t 44) (.t 47), none, 723712, 11, []⟩,
     ⟨(some 49), .mv (.t 12), none, 723968, 12, []⟩,
     ⟨(some 50), .mv (.t 1), none, 724224, 13, []⟩,
     ⟨(some 51), .bin .rem (.t 49) (.t 50), none, 724480, 14, []⟩,
     ⟨(some 52), .bin .add (.t 48) (.t 51), none, 724736, 15, []⟩,
     ⟨(some 13), .mv (.t 52), none, 724992, 16, []⟩])
   (.seq (.reg [⟨(some 53), .mv (.t 13), none, 786432, 0, []⟩,
     ⟨(some 54), .faddr 3 (.t 7), none, 786688, 1, []⟩,
     ⟨(some 55), .load 1 false (.t 54), none, 786944, 2, []⟩,
     ⟨(some 56), .bin .lss (.t 53) (.t 55), none, 787200, 3, []⟩])
   (.cond (.t 56)
    (.reg [⟨(some 57), .mv (.t 11), none, 851968, 0, []⟩,
      ⟨(some 58), .mv (.t 2), none, 852224, 1, []⟩,
      ⟨(some 59), .mv (.t 13), none, 852480, 2, []⟩,
      ⟨(some 60), .idx (.t 58) (.t 59), none, 852736, 3, []⟩,
      ⟨(some 61), .bslice true 1 [(.int .u8 0)] 1 [(0, (.t 60))], none, 852992, 4, []⟩,
      ⟨(some 62), .app true 1 1 (.t 57) (.t 61), none, 853248, 5, []⟩,
      ⟨(some 11), .mv (.t 62), none, 853504, 6, []⟩])
    (.reg [⟨(some 63), .mv (.t 11), none, 917504, 0, []⟩,
      ⟨(some 64), .bslice true 1 [(.int .u8 0)] 1 [(0, (.k (.int .u8 0)))], none, 917760, 1, []⟩,
      ⟨(some 65), .app true 1 1 (.t 63) (.t 64), none, 918016, 2, []⟩,
      ⟨(some 11), .mv (.t 65), none, 918272, 3, []⟩])))))
   (.reg [⟨(some 35), .mv (.t 12), none, 655360, 0, []⟩,
     ⟨(some 36), .bin .add (.t 35) (.k (.int .i64 1)), none, 655616, 1, []⟩,
     ⟨(some 12), .mv (.t 36), none, 655872, 2, []⟩]))))))
  (.reg [⟨(some 66), .mv (.t 9), none, 983040, 0, []⟩,
    ⟨(some 67), .mv (.t 11), none, 983296, 1, []⟩,
    ⟨(some 68), .b2s (.t 67), none, 983552, 2, []⟩,
    ⟨(some 69), .bslice true 1 [(.str ByteArray.empty)] 1 [(0, (.t 68))], none, 983808, 3, []⟩,
    ⟨(some 70), .app true 1 16 (.t 66) (.t 69), none, 984064, 4, []⟩,
    ⟨(some 9), .mv (.t 70), none, 984320, 5, []⟩]))))
  (.reg [⟨(some 29), .mv (.t 10), none, 393216, 0, []⟩,
    ⟨(some 30), .bin .add (.t 29) (.k (.int .i64 1)), none, 393472, 1, []⟩,
    ⟨(some 10), .mv (.t 30), none, 393728, 2, []⟩]))))))
 (.seq (.reg [⟨(some 71), .faddr 0 (.t 3), none, 1048576, 0, []⟩,
   ⟨(some 72), .load 1 false (.t 71), none, 1048832, 1, []⟩,
   ⟨(some 73), .faddr 1 (.t 3), none, 1049088, 2, []⟩,
   ⟨(some 74), .load 1 false (.t 73), none, 1049344, 3, []⟩,
   ⟨(some 75), .call 133 [(.t 72), (.t 74)] false, none, 1049600, 4, []⟩,
   ⟨(some 76), .mv (.t 9), none, 1049856, 5, []⟩,
   ⟨(some 77), .call 132 [(.t 75), (.t 76)] false, none, 1050112, 6, []⟩,
   ⟨(some 78), .faddr 4 (.t 7), none, 1050368, 7, []⟩,
   ⟨none, .store 1 (.t 78) (.t 77), none, 1050624, 8, []⟩])
 (.seq (.reg [⟨(some 79), .load 5 true (.t 7), none, 1114112, 0, []⟩,
   ⟨none, .store 5 (.t 6) (.t 79), none, 1114368, 1, []⟩])
 (.ret)))))))⟩
/-- loop.example/g00849/impl.wideOf -/
def F90 : F := ⟨3, 74, [.cell 6 5 true],
 .seq (.reg [⟨(some 3), .box (.t 0), none, 0, 0, []⟩,
   ⟨(some 6), .alloc [(.int .i64 0), (.int .i64 0), (.int .i64 0), (.int .i64 0), (.nil true 1)], none, 256, 1, []⟩])
 (.seq (.reg [⟨(some 16), .load 2 true (.t 3), none, 65536, 0, []⟩,
   ⟨(some 17), .mv (.t 1), none, 65792, 1, []⟩,
   ⟨(some 18), .mv (.t 2), none, 66048, 2, []⟩,
   ⟨(some 19), .len true (.t 18), none, 66304, 3, []⟩,
   ⟨(some 20), .build [(.int .i64 0), (.int .i64 0), (.int .i64 0), (.int .i64 0), (.nil true 1)] [(0, 2, (.t 16)), (2, 1, (.t 17)), (3, 1, (.t 19))], none, 66560, 4, []⟩,
   ⟨(some 7), .alloc [(.int .i64 0), (.int .i64 0), (.int .i64 0), (.int .i64 0), (.nil true 1)], none, 66816, 5, []⟩,
   ⟨none, .stm 5 (.t 7) (.t 20), none, 67072, 6, []⟩])
 (.seq (.reg [⟨(some 21), .faddr 0 (.t 3), none, 131072, 0, []⟩,
   ⟨(some 22), .load 1 false (.t 21), none, 131328, 1, []⟩,
   ⟨(some 23), .mksl false 1 24 [(.nil true 1)] (.t 22) (.t 22), none, 131584, 2, []⟩,
   ⟨(some 8), .mv (.t 23), none, 131840, 3, []⟩])
 (.seq (.seq (.reg [⟨(some 24), .mv (.t 8), none, 196608, 0, []⟩,
   ⟨(some 25), .len false (.t 24), none, 196864, 1, []⟩,
   ⟨(some 26), .mv (.k (.int .i64 0)), none, 197120, 2, []⟩])
 (.block 0 (.loop [2, 3, 6, 7, 8, 25, 26] [0, 1, 2, 3, 4, 5, 256, 261, 66816, 66821, 67073, 67074, 67075, 67076, 67077, 131584, 788737, 917504, 1180416, 1180672, 1311232, 1311233, 1311234, 1311235, 1311745, 1376513, 1376514, 1376515, 1376516, 1376517]
  (.seq (.reg [⟨(some 27), .bin .lss (.t 26) (.t 25), none, 262144, 0, []⟩])
  (.seq (.cond (.t 27)
   (.skip)
   (.exit 0))
  (.seq (.block 1 (.seq (.reg [⟨(some 28), .mv (.t 26), none, 327680, 0, []⟩,
    ⟨(some 9), .mv (.t 28), none, 327936, 1, []⟩])
  (.reg [⟨(some 29), .mv (.t 8), none, 393216, 0, []⟩,
    ⟨(some 30), .mv (.t 9), none, 393472, 1, []⟩,
    ⟨(some 31), .load 5 true (.t 7), none, 393728, 2, []⟩,
    ⟨(some 32), .call 99 [(.t 31)] true, none, 393984, 3, []⟩,
    ⟨(some 33), .mksl true 1 1 [(.int .u8 0)] (.t 32) (.t 32), none, 394240, 4, []⟩,
    ⟨(some 34), .iaddr 1 (.t 29) (.t 30), none, 394496, 5, []⟩,
    ⟨none, .stm 1 (.t 34) (.t 33), none, 394752, 6, []⟩])))
  (.reg [⟨(some 35), .bin .add (.t 26) (.k (.int .i64 1)), none, 458752, 0, []⟩,
    ⟨(some 26), .mv (.t 35), none, 459008, 1, []⟩])))))))
 (.seq (.seq (.reg [⟨(some 36), .faddr 3 (.t 7), none, 524288, 0, []⟩,
   ⟨(some 37), .load 1 false (.t 36), none, 524544, 1, []⟩,
   ⟨(some 38), .mv (.k (.int .i64 0)), none, 524800, 2, []⟩])
 (.block 2 (.loop [2, 3, 6, 7, 8, 37, 38] [0, 1, 2, 3, 4, 5, 256, 261, 66816, 66821, 67073, 67074, 67075, 67076, 67077, 131584, 394240, 394753, 917504, 1180416, 1180672, 1311232, 1311233, 1311234, 1311235, 1311745, 1376513, 1376514, 1376515, 1376516, 1376517]
  (.seq (.reg [⟨(some 39), .bin .lss (.t 38) (.t 37), none, 589824, 0, []⟩])
  (.seq (.cond (.t 39)
   (.skip)
   (.exit 2))
  (.seq (.block 3 (.seq (.reg [⟨(some 40), .mv (.t 38), none, 655360, 0, []⟩,
    ⟨(some 10), .mv (.t 40), none, 655616, 1, []⟩])
  (.seq (.reg [⟨(some 42), .load 5 true (.t 7), none, 720896, 0, []⟩,
    ⟨(some 43), .mv (.t 10), none, 721152, 1, []⟩,
    ⟨(some 44), .call 101 [(.t 42), (.t 43)] true, none, 721408, 2, []⟩,
    ⟨(some 41), .mv (.t 44), none, 721664, 3, []⟩,
    ⟨(some 45), .ext (.t 41) 0, none, 721920, 4, []⟩,
    ⟨(some 46), .ext (.t 41) 1, none, 722176, 5, []⟩,
    ⟨(some 11), .mv (.t 45), none, 722432, 6, []⟩,
    ⟨(some 12), .mv (.t 46), none, 722688, 7, []⟩])
  (.reg [⟨(some 47), .mv (.t 8), none, 786432, 0, []⟩,
    ⟨(some 48), .mv (.t 11), none, 786688, 1, []⟩,
    ⟨(some 49), .iaddr 1 (.t 47) (.t 48), none, 786944, 2, []⟩,
    ⟨(some 50), .load 1 false (.t 49), none, 787200, 3, []⟩,
    ⟨(some 51), .mv (.t 12), none, 787456, 4, []⟩,
    ⟨(some 52), .mv (.t 2), none, 787712, 5, []⟩,
    ⟨(some 53), .mv (.t 10), none, 787968, 6, []⟩,
    ⟨(some 54), .idx (.t 52) (.t 53), none, 788224, 7, []⟩,
    ⟨(some 55), .iaddr 1 (.t 50) (.t 51), none, 788480, 8, []⟩,
    ⟨none, .stm 1 (.t 55) (.t 54), none, 788736, 9, []⟩]))))
  (.reg [⟨(some 56), .bin .add (.t 38) (.k (.int .i64 1)), none, 851968, 0, []⟩,
    ⟨(some 38), .mv (.t 56), none, 852224, 1, []⟩])))))))
 (.seq (.reg [⟨(some 13), .nil0 true 1, none, 917504, 0, []⟩])
 (.seq (.seq (.reg [⟨(some 57), .mv (.t 8), none, 983040, 0, []⟩,
   ⟨(some 58), .len false (.t 57), none, 983296, 1, []⟩,
   ⟨(some 59), .mv (.k (.int .i64 0)), none, 983552, 2, []⟩])
 (.block 4 (.loop [3, 6, 7, 13, 57, 58, 59] [0, 1, 2, 3, 4, 5, 256, 261, 66816, 66821, 67073, 67074, 67075, 67076, 67077, 131584, 394240, 394753, 788737, 917504, 1311232, 1311233, 1311234, 1311235, 1311745, 1376513, 1376514, 1376515, 1376516, 1376517]
  (.seq (.reg [⟨(some 60), .bin .lss (.t 59) (.t 58), none, 1048576, 0, []⟩])
  (.seq (.cond (.t 60)
   (.skip)
   (.exit 4))
  (.seq (.block 5 (.seq (.reg [⟨(some 61), .iaddr 1 (.t 57) (.t 59), none, 1114112, 0, []⟩,
    ⟨(some 62), .load 1 false (.t 61), none, 1114368, 1, []⟩,
    ⟨(some 15), .mv (.t 62), none, 1114624, 2, []⟩])
  (.reg [⟨(some 63), .mv (.t 13), none, 1179648, 0, []⟩,
    ⟨(some 64), .mv (.t 15), none, 1179904, 1, []⟩,
    ⟨(some 65), .b2s (.t 64), none, 1180160, 2, []⟩,
    ⟨(some 66), .bslice true 1 [(.str ByteArray.empty)] 1 [(0, (.t 65))], none, 1180416, 3, []⟩,
    ⟨(some 67), .app true 1 16 (.t 63) (.t 66), none, 1180672, 4, []⟩,
    ⟨(some 13), .mv (.t 67), none, 1180928, 5, []⟩])))
  (.reg [⟨(some 68), .bin .add (.t 59) (.k (.int .i64 1)), none, 1245184, 0, []⟩,
    ⟨(some 59), .mv (.t 68), none, 1245440, 1, []⟩])))))))
 (.seq (.reg [⟨(some 69), .load 2 true (.t 3), none, 1310720, 0, []⟩,
   ⟨(some 70), .mv (.t 13), none, 1310976, 1, []⟩,
   ⟨(some 71), .call 80 [(.t 69), (.t 70)] false, none, 1311232, 2, []⟩,
   ⟨(some 72), .faddr 4 (.t 7), none, 1311488, 3, []⟩,
   ⟨none, .stm 1 (.t 72) (.t 71), none, 1311744, 4, []⟩])
 (.seq (.reg [⟨(some 73), .load 5 true (.t 7), none, 1376256, 0, []⟩,
   ⟨none, .stm 5 (.t 6) (.t 73), none, 1376512, 1, []⟩])
 (.ret)))))))))⟩
/-- loop.example/g00849/laws.eqCode -/
def F91 : F := ⟨2, 15, [.t 4],
 .seq (.reg [⟨(some 2), .box (.t 0), none, 0, 0, []⟩,
   ⟨(some 3), .box (.t 1), none, 256, 1, []⟩,
   ⟨(some 4), .mv (.k (.bool false)), none, 512, 2, []⟩])
 (.seq (.seq (.reg [⟨(some 5), .faddr 0 (.t 2), none, 65536, 0, []⟩,
   ⟨(some 6), .load 1 false (.t 5), none, 65792, 1, []⟩,
   ⟨(some 7), .faddr 0 (.t 3), none, 66048, 2, []⟩,
   ⟨(some 8), .load 1 false (.t 7), none, 66304, 3, []⟩,
   ⟨(some 9), .bin .neq (.t 6) (.t 8), none, 66560, 4, []⟩])
 (.cond (.t 9)
  (.seq (.reg [⟨(some 4), .mv (.k (.bool false)), none, 131072, 0, []⟩])
  (.ret))
  (.skip)))
 (.seq (.seq (.reg [⟨(some 10), .faddr 1 (.t 2), none, 196608, 0, []⟩,
   ⟨(some 11), .load 1 false (.t 10), none, 196864, 1, []⟩,
   ⟨(some 12), .faddr 1 (.t 3), none, 197120, 2, []⟩,
   ⟨(some 13), .load 1 false (.t 12), none, 197376, 3, []⟩,
   ⟨(some 14), .bin .neq (.t 11) (.t 13), none, 197632, 4, []⟩])
 (.cond (.t 14)
  (.seq (.reg [⟨(some 4), .mv (.k (.bool false)), none, 262144, 0, []⟩])
  (.ret))
  (.skip)))
 (.seq (.reg [⟨(some 4), .mv (.k (.bool true)), none, 327680, 0, []⟩])
 (.ret))))⟩
/-- loop.example/g00849/laws.eqStringS -/
def F92 : F := ⟨2, 26, [.t 4],
 .seq (.reg [⟨(some 4), .mv (.k (.bool false)), none, 0, 0, []⟩])
 (.seq (.seq (.reg [⟨(some 6), .mv (.t 0), none, 65536, 0, []⟩,
   ⟨(some 7), .len false (.t 6), none, 65792, 1, []⟩,
   ⟨(some 8), .mv (.t 1), none, 66048, 2, []⟩,
   ⟨(some 9), .len false (.t 8), none, 66304, 3, []⟩,
   ⟨(some 10), .bin .neq (.t 7) (.t 9), none, 66560, 4, []⟩])
 (.cond (.t 10)
  (.seq (.reg [⟨(some 4), .mv (.k (.bool false)), none, 131072, 0, []⟩])
  (.ret))
  (.skip)))
 (.seq (.seq (.reg [⟨(some 5), .mv (.k (.int .i64 0)), none, 196608, 0, []⟩])
 (.block 0 (.loop [0, 1, 5] []
  (.seq (.seq (.reg [⟨(some 11), .mv (.t 5), none, 262144, 0, []⟩,
    ⟨(some 12), .mv (.t 0), none, 262400, 1, []⟩,
    ⟨(some 13), .len false (.t 12), none, 262656, 2, []⟩,
    ⟨(some 14), .bin .lss (.t 11) (.t 13), none, 262912, 3, []⟩])
  (.cond (.t 14)
   (.skip)
   (.exit 0)))
  (.seq (.block 1 (.seq (.reg [⟨(some 17), .mv (.t 0), none, 393216, 0, []⟩,
    ⟨(some 18), .mv (.t 5), none, 393472, 1, []⟩,
    ⟨(some 19), .iaddr 1 (.t 17) (.t 18), none, 393728, 2, []⟩,
    ⟨(some 20), .load 1 false (.t 19), none, 393984, 3, []⟩,
    ⟨(some 21), .mv (.t 1), none, 394240, 4, []⟩,
    ⟨(some 22), .mv (.t 5), none, 394496, 5, []⟩,
    ⟨(some 23), .iaddr 1 (.t 21) (.t 22), none, 394752, 6, []⟩,
    ⟨(some 24), .load 1 false (.t 23), none, 395008, 7, []⟩,
    ⟨(some 25), .bin .neq (.t 20) (.t 24), none, 395264, 8, []⟩])
  (.cond (.t 25)
   (.seq (.reg [⟨(some 4), .mv (.k (.bool false)), none, 458752, 0, []⟩])
   (.ret))
   (.skip))))
  (.reg [⟨(some 15), .mv (.t 5), none, 327680, 0, []⟩,
    ⟨(some 16), .bin .add (.t 15) (.k (.int .i64 1)), none, 327936, 1, []⟩,
    ⟨(some 5), .mv (.t 16), none, 328192, 2, []⟩]))))))
 (.seq (.reg [⟨(some 4), .mv (.k (.bool true)), none, 524288, 0, []⟩])
 (.ret))))⟩
/-- (loop.example/g00849/impl.Code).size -/
def F96 : F := ⟨1, 8, [.t 2],
 .seq (.reg [⟨(some 1), .box (.t 0), none, 0, 0, []⟩,
   ⟨(some 2), .mv (.k (.int .i64 0)), none, 256, 1, []⟩])
 (.seq (.reg [⟨(some 3), .faddr 0 (.t 1), none, 65536, 0, []⟩,
   ⟨(some 4), .load 1 false (.t 3), none, 65792, 1, []⟩,
   ⟨(some 5), .faddr 1 (.t 1), none, 66048, 2, []⟩,
   ⟨(some 6), .load 1 false (.t 5), none, 66304, 3, []⟩,
   ⟨(some 7), .bin .add (.t 4) (.t 6), none, 66560, 4, []⟩,
   ⟨(some 2), .mv (.t 7), none, 66816, 5, []⟩])
 (.ret))⟩
/-- slices.ContainsFunc[[]string,string] -/
def F97 : F := ⟨2, 9, [.t 4],
 .seq (.reg [⟨(some 4), .mv (.k (.bool false)), none, 0, 0, []⟩])
 (.seq (.reg [⟨(some 5), .mv (.t 0), none, 65536, 0, []⟩,
   ⟨(some 6), .mv (.t 1), none, 65792, 1, []⟩,
   ⟨(some 7), .call 138 [(.t 5), (.t 6)] true, none, 66048, 2, []⟩,
   ⟨(some 8), .bin .geq (.t 7) (.k (.int .i64 0)), none, 66304, 3, []⟩,
   ⟨(some 4), .mv (.t 8), none, 66560, 4, []⟩])
 (.ret))⟩
/-- loop.example/g00849/impl.WideOk$1 -/
def F98 : F := ⟨2, 9, [.t 3],
 .seq (.reg [⟨(some 3), .mv (.k (.bool false)), none, 0, 0, []⟩])
 (.seq (.reg [⟨(some 4), .mv (.t 0), none, 65536, 0, []⟩,
   ⟨(some 5), .len true (.t 4), none, 65792, 1, []⟩,
   ⟨(some 6), .load 5 true (.t 1), none, 66048, 2, []⟩,
   ⟨(some 7), .call 99 [(.t 6)] true, none, 66304, 3, []⟩,
   ⟨(some 8), .bin .neq (.t 5) (.t 7), none, 66560, 4, []⟩,
   ⟨(some 3), .mv (.t 8), none, 66816, 5, []⟩])
 (.ret))⟩
/-- (loop.example/g00849/impl.Wide).length -/
def F99 : F := ⟨1, 15, [.t 2],
 .seq (.reg [⟨(some 1), .box (.t 0), none, 0, 0, []⟩,
   ⟨(some 2), .mv (.k (.int .i64 0)), none, 256, 1, []⟩])
 (.seq (.reg [⟨(some 3), .faddr 3 (.t 1), none, 65536, 0, []⟩,
   ⟨(some 4), .load 1 false (.t 3), none, 65792, 1, []⟩,
   ⟨(some 5), .load 5 true (.t 1), none, 66048, 2, []⟩,
   ⟨(some 6), .call 115 [(.t 5)] true, none, 66304, 3, []⟩,
   ⟨(some 7), .bin .add (.t 4) (.t 6), none, 66560, 4, []⟩,
   ⟨(some 8), .bin .sub (.t 7) (.k (.int .i64 1)), none, 66816, 5, []⟩,
   ⟨(some 9), .load 5 true (.t 1), none, 67072, 6, []⟩,
   ⟨(some 10), .call 115 [(.t 9)] true, none, 67328, 7, []⟩,
   ⟨(some 11), .bin .quo (.t 8) (.t 10), none, 67584, 8, []⟩,
   ⟨(some 12), .faddr 2 (.t 1), none, 67840, 9, []⟩,
   ⟨(some 13), .load 1 false (.t 12), none, 68096, 10, []⟩,
   ⟨(some 14), .bin .mul (.t 11) (.t 13), none, 68352, 11, []⟩,
   ⟨(some 2), .mv (.t 14), none, 68608, 12, []⟩])
 (.ret))⟩
/-- slices.Equal[[]string,string] -/
def F100 : F := ⟨2, 26, [.t 4],
 .seq (.reg [⟨(some 4), .mv (.k (.bool false)), none, 0, 0, []⟩])
 (.seq (.seq (.reg [⟨(some 6), .mv (.t 0), none, 65536, 0, []⟩,
   ⟨(some 7), .len false (.t 6), none, 65792, 1, []⟩,
   ⟨(some 8), .mv (.t 1), none, 66048, 2, []⟩,
   ⟨(some 9), .len false (.t 8), none, 66304, 3, []⟩,
   ⟨(some 10), .bin .neq (.t 7) (.t 9), none, 66560, 4, []⟩])
 (.cond (.t 10)
  (.seq (.reg [⟨(some 4), .mv (.k (.bool false)), none, 131072, 0, []⟩])
  (.ret))
  (.skip)))
 (.seq (.seq (.reg [⟨(some 11), .mv (.t 0), none, 196608, 0, []⟩,
   ⟨(some 12), .len false (.t 11), none, 196864, 1, []⟩,
   ⟨(some 13), .mv (.k (.int .i64 0)), none, 197120, 2, []⟩])
 (.block 0 (.loop [0, 1, 12, 13] []
  (.seq (.reg [⟨(some 14), .bin .lss (.t 13) (.t 12), none, 262144, 0, []⟩])
  (.seq (.cond (.t 14)
   (.skip)
   (.exit 0))
  (.seq (.block 1 (.seq (.reg [⟨(some 15), .mv (.t 13), none, 327680, 0, []⟩,
    ⟨(some 5), .mv (.t 15), none, 327936, 1, []⟩])
  (.seq (.reg [⟨(some 16), .mv (.t 0), none, 393216, 0, []⟩,
    ⟨(some 17), .mv (.t 5), none, 393472, 1, []⟩,
    ⟨(some 18), .iaddr 1 (.t 16) (.t 17), none, 393728, 2, []⟩,
    ⟨(some 19), .load 1 false (.t 18), none, 393984, 3, []⟩,
    ⟨(some 20), .mv (.t 1), none, 394240, 4, []⟩,
    ⟨(some 21), .mv (.t 5), none, 394496, 5, []⟩,
    ⟨(some 22), .iaddr 1 (.t 20) (.t 21), none, 394752, 6, []⟩,
    ⟨(some 23), .load 1 false (.t 22), none, 395008, 7, []⟩,
    ⟨(some 24), .bin .neq (.t 19) (.t 23), none, 395264, 8, []⟩])
  (.cond (.t 24)
   (.seq (.reg [⟨(some 4), .mv (.k (.bool false)), none, 458752, 0, []⟩])
   (.ret))
   (.skip)))))
  (.reg [⟨(some 25), .bin .add (.t 13) (.k (.int .i64 1)), none, 524288, 0, []⟩,
    ⟨(some 13), .mv (.t 25), none, 524544, 1, []⟩])))))))
 (.seq (.reg [⟨(some 4), .mv (.k (.bool true)), none, 589824, 0, []⟩])
 (.ret))))⟩
/-- (loop.example/g00849/impl.Wide).cell -/
def F101 : F := ⟨2, 25, [.t 4, .t 5],
 .seq (.reg [⟨(some 2), .box (.t 0), none, 0, 0, []⟩,
   ⟨(some 4), .mv (.k (.int .i64 0)), none, 256, 1, []⟩,
   ⟨(some 5), .mv (.k (.int .i64 0)), none, 512, 2, []⟩])
 (.seq (.reg [⟨(some 6), .mv (.t 1), none, 65536, 0, []⟩,
   ⟨(some 7), .load 5 true (.t 2), none, 65792, 1, []⟩,
   ⟨(some 8), .call 115 [(.t 7)] true, none, 66048, 2, []⟩,
   ⟨(some 9), .bin .rem (.t 6) (.t 8), none, 66304, 3, []⟩,
   ⟨(some 10), .faddr 2 (.t 2), none, 66560, 4, []⟩,
   ⟨(some 11), .load 1 false (.t 10), none, 66816, 5, []⟩,
   ⟨(some 12), .bin .quo (.t 9) (.t 11), none, 67072, 6, []⟩,
   ⟨(some 13), .mv (.t 1), none, 67328, 7, []⟩,
   ⟨(some 14), .load 5 true (.t 2), none, 67584, 8, []⟩,
   ⟨(some 15), .call 115 [(.t 14)] true, none, 67840, 9, []⟩,
   ⟨(some 16), .bin .quo (.t 13) (.t 15), none, 68096, 10, []⟩,
   ⟨(some 17), .faddr 2 (.t 2), none, 68352, 11, []⟩,
   ⟨(some 18), .load 1 false (.t 17), none, 68608, 12, []⟩,
   ⟨(some 19), .bin .mul (.t 16) (.t 18), none, 68864, 13, []⟩,
   ⟨(some 20), .mv (.t 1), none, 69120, 14, []⟩,
   ⟨(some 21), .faddr 2 (.t 2), none, 69376, 15, []⟩,
   ⟨(some 22), .load 1 false (.t 21), none, 69632, 16, []⟩,
   ⟨(some 23), .bin .rem (.t 20) (.t 22), none, 69888, 17, []⟩,
   ⟨(some 24), .bin .add (.t 19) (.t 23), none, 70144, 18, []⟩,
   ⟨(some 4), .mv (.t 12), none, 70400, 19, []⟩,
   ⟨(some 5), .mv (.t 24), none, 70656, 20, []⟩])
 (.ret))⟩
/-- loop.example/g00849/laws.szStringS -/
def F102 : F := ⟨2, 28, [.t 4],
 .seq (.reg [⟨(some 4), .mv (.k (.int .i64 0)), none, 0, 0, []⟩])
 (.seq (.reg [⟨(some 6), .mv (.t 1), none, 65536, 0, []⟩,
   ⟨(some 7), .mv (.t 0), none, 65792, 1, []⟩,
   ⟨(some 8), .len false (.t 7), none, 66048, 2, []⟩,
   ⟨(some 9), .bin .sub (.t 6) (.t 8), none, 66304, 3, []⟩,
   ⟨(some 1), .mv (.t 9), none, 66560, 4, []⟩])
 (.seq (.seq (.reg [⟨(some 10), .mv (.t 1), none, 131072, 0, []⟩,
   ⟨(some 11), .bin .lss (.t 10) (.k (.int .i64 0)), none, 131328, 1, []⟩])
 (.cond (.t 11)
  (.seq (.reg [⟨(some 4), .mv (.k (.int .i64 (-1))), none, 196608, 0, []⟩])
  (.ret))
  (.skip)))
 (.seq (.seq (.reg [⟨(some 5), .mv (.k (.int .i64 0)), none, 262144, 0, []⟩])
 (.block 0 (.loop [0, 1, 5] []
  (.seq (.seq (.reg [⟨(some 12), .mv (.t 5), none, 327680, 0, []⟩,
    ⟨(some 13), .mv (.t 0), none, 327936, 1, []⟩,
    ⟨(some 14), .len false (.t 13), none, 328192, 2, []⟩,
    ⟨(some 15), .bin .lss (.t 12) (.t 14), none, 328448, 3, []⟩])
  (.cond (.t 15)
   (.skip)
   (.exit 0)))
  (.seq (.block 1 (.seq (.reg [⟨(some 18), .mv (.t 1), none, 458752, 0, []⟩,
    ⟨(some 19), .mv (.t 0), none, 459008, 1, []⟩,
    ⟨(some 20), .mv (.t 5), none, 459264, 2, []⟩,
    ⟨(some 21), .iaddr 1 (.t 19) (.t 20), none, 459520, 3, []⟩,
    ⟨(some 22), .load 1 false (.t 21), none, 459776, 4, []⟩,
    ⟨(some 23), .len true (.t 22), none, 460032, 5, []⟩,
    ⟨(some 24), .bin .sub (.t 18) (.t 23), none, 460288, 6, []⟩,
    ⟨(some 1), .mv (.t 24), none, 460544, 7, []⟩])
  (.seq (.reg [⟨(some 25), .mv (.t 1), none, 524288, 0, []⟩,
    ⟨(some 26), .bin .lss (.t 25) (.k (.int .i64 0)), none, 524544, 1, []⟩])
  (.cond (.t 26)
   (.seq (.reg [⟨(some 4), .mv (.k (.int .i64 (-1))), none, 589824, 0, []⟩])
   (.ret))
   (.skip)))))
  (.reg [⟨(some 16), .mv (.t 5), none, 393216, 0, []⟩,
    ⟨(some 17), .bin .add (.t 16) (.k (.int .i64 1)), none, 393472, 1, []⟩,
    ⟨(some 5), .mv (.t 17), none, 393728, 2, []⟩]))))))
 (.seq (.reg [⟨(some 27), .mv (.t 1), none, 655360, 0, []⟩,
   ⟨(some 4), .mv (.t 27), none, 655616, 1, []⟩])
 (.ret)))))⟩
/-- loop.example/g00849/spec.l05OK -/
def F103 : F := ⟨1, 54, [.t 2],
 .seq (.reg [⟨(some 1), .box (.t 0), none, 0, 0, []⟩,
   ⟨(some 2), .mv (.k (.bool false)), none, 256, 1, []⟩])
 (.seq (.seq (.reg [⟨(some 4), .faddr 0 (.t 1), none, 65536, 0, []⟩,
   ⟨(some 5), .load 2 true (.t 4), none, 65792, 1, []⟩,
   ⟨(some 6), .call 88 [(.t 5)] true, none, 66048, 2, []⟩,
   ⟨(some 7), .not (.t 6), none, 66304, 3, []⟩,
   ⟨(some 8), .mv (.t 7), none, 66560, 4, []⟩,
   ⟨(some 9), .faddr 2 (.t 1), (some (some 8, false)), 66816, 5, []⟩,
   ⟨(some 10), .load 1 false (.t 9), (some (some 8, false)), 67072, 6, []⟩,
   ⟨(some 11), .call 77 [(.t 10), (.k (.int .i64 1)), (.k (.int .i64 8))] true, (some (some 8, false)), 67328, 7, []⟩,
   ⟨(some 12), .not (.t 11), (some (some 8, false)), 67584, 8, []⟩,
   ⟨(some 13), .pick (.t 8) (.k (.bool true)) (.t 12), none, 67840, 9, []⟩,
   ⟨(some 14), .mv (.t 13), none, 68096, 10, []⟩,
   ⟨(some 15), .faddr 3 (.t 1), (some (some 14, false)), 68352, 11, []⟩,
   ⟨(some 16), .load 1 false (.t 15), (some (some 14, false)), 68608, 12, []⟩,
   ⟨(some 17), .call 77 [(.t 16), (.k (.int .i64 0)), (.k (.int .i64 256))] true, (some (some 14, false)), 68864, 13, []⟩,
   ⟨(some 18), .not (.t 17), (some (some 14, false)), 69120, 14, []⟩,
   ⟨(some 19), .pick (.t 14) (.k (.bool true)) (.t 18), none, 69376, 15, []⟩,
   ⟨(some 20), .mv (.t 19), none, 69632, 16, []⟩,
   ⟨(some 21), .faddr 4 (.t 1), (some (some 20, false)), 69888, 17, []⟩,
   ⟨(some 22), .load 1 false (.t 21), (some (some 20, false)), 70144, 18, []⟩,
   ⟨(some 23), .len false (.t 22), (some (some 20, false)), 70400, 19, []⟩,
   ⟨(some 24), .faddr 0 (.t 1), (some (some 20, false)), 70656, 20, []⟩,
   ⟨(some 25), .faddr 0 (.t 24), (some (some 20, false)), 70912, 21, []⟩,
   ⟨(some 26), .load 1 false (.t 25), (some (some 20, false)), 71168, 22, []⟩,
   ⟨(some 27), .faddr 0 (.t 1), (some (some 20, false)), 71424, 23, []⟩,
   ⟨(some 28), .faddr 1 (.t 27), (some (some 20, false)), 71680, 24, []⟩,
   ⟨(some 29), .load 1 false (.t 28), (some (some 20, false)), 71936, 25, []⟩,
   ⟨(some 30), .bin .add (.t 26) (.t 29), (some (some 20, false)), 72192, 26, []⟩,
   ⟨(some 31), .bin .neq (.t 23) (.t 30), (some (some 20, false)), 72448, 27, []⟩,
   ⟨(some 32), .pick (.t 20) (.k (.bool true)) (.t 31), none, 72704, 28, []⟩])
 (.cond (.t 32)
  (.seq (.reg [⟨(some 2), .mv (.k (.bool false)), none, 131072, 0, []⟩])
  (.ret))
  (.skip)))
 (.seq (.seq (.reg [⟨(some 3), .mv (.k (.int .i64 0)), none, 196608, 0, []⟩])
 (.block 0 (.loop [1, 3] [0, 1, 2, 3, 4, 5]
  (.seq (.seq (.reg [⟨(some 33), .mv (.t 3), none, 262144, 0, []⟩,
    ⟨(some 34), .faddr 4 (.t 1), none, 262400, 1, []⟩,
    ⟨(some 35), .load 1 false (.t 34), none, 262656, 2, []⟩,
    ⟨(some 36), .len false (.t 35), none, 262912, 3, []⟩,
    ⟨(some 37), .bin .lss (.t 33) (.t 36), none, 263168, 4, []⟩])
  (.cond (.t 37)
   (.skip)
   (.exit 0)))
  (.seq (.block 1 (.seq (.reg [⟨(some 40), .faddr 4 (.t 1), none, 393216, 0, []⟩,
    ⟨(some 41), .load 1 false (.t 40), none, 393472, 1, []⟩,
    ⟨(some 42), .mv (.t 3), none, 393728, 2, []⟩,
    ⟨(some 43), .iaddr 1 (.t 41) (.t 42), none, 393984, 3, []⟩,
    ⟨(some 44), .load 1 false (.t 43), none, 394240, 4, []⟩,
    ⟨(some 45), .len true (.t 44), none, 394496, 5, []⟩,
    ⟨(some 46), .faddr 0 (.t 1), none, 394752, 6, []⟩,
    ⟨(some 47), .load 2 true (.t 46), none, 395008, 7, []⟩,
    ⟨(some 48), .faddr 2 (.t 1), none, 395264, 8, []⟩,
    ⟨(some 49), .load 1 false (.t 48), none, 395520, 9, []⟩,
    ⟨(some 50), .faddr 3 (.t 1), none, 395776, 10, []⟩,
    ⟨(some 51), .load 1 false (.t 50), none, 396032, 11, []⟩,
    ⟨(some 52), .call 136 [(.t 47), (.t 49), (.t 51)] true, none, 396288, 12, []⟩,
    ⟨(some 53), .bin .neq (.t 45) (.t 52), none, 396544, 13, []⟩])
  (.cond (.t 53)
   (.seq (.reg [⟨(some 2), .mv (.k (.bool false)), none, 458752, 0, []⟩])
   (.ret))
   (.skip))))
  (.reg [⟨(some 38), .mv (.t 3), none, 327680, 0, []⟩,
    ⟨(some 39), .bin .add (.t 38) (.k (.int .i64 1)), none, 327936, 1, []⟩,
    ⟨(some 3), .mv (.t 39), none, 328192, 2, []⟩]))))))
 (.seq (.reg [⟨(some 2), .mv (.k (.bool true)), none, 524288, 0, []⟩])
 (.ret))))⟩
/-- loop.example/g00849/spec.l05Same -/
def F104 : F := ⟨2, 52, [.t 4],
 .seq (.reg [⟨(some 2), .box (.t 0), none, 0, 0, []⟩,
   ⟨(some 3), .box (.t 1), none, 256, 1, []⟩,
   ⟨(some 4), .mv (.k (.bool false)), none, 512, 2, []⟩])
 (.seq (.seq (.reg [⟨(some 6), .faddr 0 (.t 2), none, 65536, 0, []⟩,
   ⟨(some 7), .load 2 true (.t 6), none, 65792, 1, []⟩,
   ⟨(some 8), .faddr 0 (.t 3), none, 66048, 2, []⟩,
   ⟨(some 9), .load 2 true (.t 8), none, 66304, 3, []⟩,
   ⟨(some 10), .eqv true true [.i, .i] (.t 7) (.t 9), none, 66560, 4, []⟩,
   ⟨(some 11), .mv (.t 10), none, 66816, 5, []⟩,
   ⟨(some 12), .faddr 2 (.t 2), (some (some 11, false)), 67072, 6, []⟩,
   ⟨(some 13), .load 1 false (.t 12), (some (some 11, false)), 67328, 7, []⟩,
   ⟨(some 14), .faddr 2 (.t 3), (some (some 11, false)), 67584, 8, []⟩,
   ⟨(some 15), .load 1 false (.t 14), (some (some 11, false)), 67840, 9, []⟩,
   ⟨(some 16), .bin .neq (.t 13) (.t 15), (some (some 11, false)), 68096, 10, []⟩,
   ⟨(some 17), .pick (.t 11) (.k (.bool true)) (.t 16), none, 68352, 11, []⟩,
   ⟨(some 18), .mv (.t 17), none, 68608, 12, []⟩,
   ⟨(some 19), .faddr 3 (.t 2), (some (some 18, false)), 68864, 13, []⟩,
   ⟨(some 20), .load 1 false (.t 19), (some (some 18, false)), 69120, 14, []⟩,
   ⟨(some 21), .faddr 3 (.t 3), (some (some 18, false)), 69376, 15, []⟩,
   ⟨(some 22), .load 1 false (.t 21), (some (some 18, false)), 69632, 16, []⟩,
   ⟨(some 23), .bin .neq (.t 20) (.t 22), (some (some 18, false)), 69888, 17, []⟩,
   ⟨(some 24), .pick (.t 18) (.k (.bool true)) (.t 23), none, 70144, 18, []⟩,
   ⟨(some 25), .mv (.t 24), none, 70400, 19, []⟩,
   ⟨(some 26), .faddr 4 (.t 2), (some (some 25, false)), 70656, 20, []⟩,
   ⟨(some 27), .load 1 false (.t 26), (some (some 25, false)), 70912, 21, []⟩,
   ⟨(some 28), .len false (.t 27), (some (some 25, false)), 71168, 22, []⟩,
   ⟨(some 29), .faddr 4 (.t 3), (some (some 25, false)), 71424, 23, []⟩,
   ⟨(some 30), .load 1 false (.t 29), (some (some 25, false)), 71680, 24, []⟩,
   ⟨(some 31), .len false (.t 30), (some (some 25, false)), 71936, 25, []⟩,
   ⟨(some 32), .bin .neq (.t 28) (.t 31), (some (some 25, false)), 72192, 26, []⟩,
   ⟨(some 33), .pick (.t 25) (.k (.bool true)) (.t 32), none, 72448, 27, []⟩])
 (.cond (.t 33)
  (.seq (.reg [⟨(some 4), .mv (.k (.bool false)), none, 131072, 0, []⟩])
  (.ret))
  (.skip)))
 (.seq (.seq (.reg [⟨(some 5), .mv (.k (.int .i64 0)), none, 196608, 0, []⟩])
 (.block 0 (.loop [2, 3, 5] [0, 1, 2, 3, 4, 5, 256, 257, 258, 259, 260, 261]
  (.seq (.seq (.reg [⟨(some 34), .mv (.t 5), none, 262144, 0, []⟩,
    ⟨(some 35), .faddr 4 (.t 2), none, 262400, 1, []⟩,
    ⟨(some 36), .load 1 false (.t 35), none, 262656, 2, []⟩,
    ⟨(some 37), .len false (.t 36), none, 262912, 3, []⟩,
    ⟨(some 38), .bin .lss (.t 34) (.t 37), none, 263168, 4, []⟩])
  (.cond (.t 38)
   (.skip)
   (.exit 0)))
  (.seq (.block 1 (.seq (.reg [⟨(some 41), .faddr 4 (.t 2), none, 393216, 0, []⟩,
    ⟨(some 42), .load 1 false (.t 41), none, 393472, 1, []⟩,
    ⟨(some 43), .mv (.t 5), none, 393728, 2, []⟩,
    ⟨(some 44), .iaddr 1 (.t 42) (.t 43), none, 393984, 3, []⟩,
    ⟨(some 45), .load 1 false (.t 44), none, 394240, 4, []⟩,
    ⟨(some 46), .faddr 4 (.t 3), none, 394496, 5, []⟩,
    ⟨(some 47), .load 1 false (.t 46), none, 394752, 6, []⟩,
    ⟨(some 48), .mv (.t 5), none, 395008, 7, []⟩,
    ⟨(some 49), .iaddr 1 (.t 47) (.t 48), none, 395264, 8, []⟩,
    ⟨(some 50), .load 1 false (.t 49), none, 395520, 9, []⟩,
    ⟨(some 51), .bin .neq (.t 45) (.t 50), none, 395776, 10, []⟩])
  (.cond (.t 51)
   (.seq (.reg [⟨(some 4), .mv (.k (.bool false)), none, 458752, 0, []⟩])
   (.ret))
   (.skip))))
  (.reg [⟨(some 39), .mv (.t 5), none, 327680, 0, []⟩,
    ⟨(some 40), .bin .add (.t 39) (.k (.int .i64 1)), none, 327936, 1, []⟩,
    ⟨(some 5), .mv (.t 40), none, 328192, 2, []⟩]))))))
 (.seq (.reg [⟨(some 4), .mv (.k (.bool true)), none, 524288, 0, []⟩])
 (.ret))))⟩
/-- loop.example/g00849/spec.l05Read -/
def F105 : F := ⟨3, 38, [.t 6],
 .seq (.reg [⟨(some 3), .box (.t 0), none, 0, 0, []⟩,
   ⟨(some 6), .mv (.k (.str ByteArray.empty)), none, 256, 1, []⟩])
 (.seq (.reg [⟨(some 11), .bslice true 1 [(.int .u8 0)] 0 [], none, 65536, 0, []⟩,
   ⟨(some 7), .mv (.t 11), none, 65792, 1, []⟩])
 (.seq (.seq (.reg [⟨(some 12), .mv (.t 1), none, 131072, 0, []⟩,
   ⟨(some 8), .mv (.t 12), none, 131328, 1, []⟩])
 (.block 0 (.loop [1, 2, 3, 7, 8] [0, 1, 2, 3, 4, 5, 65536]
  (.seq (.seq (.reg [⟨(some 13), .mv (.t 8), none, 196608, 0, []⟩,
    ⟨(some 14), .mv (.t 1), none, 196864, 1, []⟩,
    ⟨(some 15), .mv (.t 2), none, 197120, 2, []⟩,
    ⟨(some 16), .bin .add (.t 14) (.t 15), none, 197376, 3, []⟩,
    ⟨(some 17), .bin .lss (.t 13) (.t 16), none, 197632, 4, []⟩])
  (.cond (.t 17)
   (.skip)
   (.exit 0)))
  (.seq (.block 1 (.seq (.reg [⟨(some 21), .load 5 true (.t 3), none, 327680, 0, []⟩,
    ⟨(some 22), .mv (.t 8), none, 327936, 1, []⟩,
    ⟨(some 23), .call 139 [(.t 21), (.t 22)] true, none, 328192, 2, []⟩,
    ⟨(some 20), .mv (.t 23), none, 328448, 3, []⟩,
    ⟨(some 24), .ext (.t 20) 0, none, 328704, 4, []⟩,
    ⟨(some 25), .ext (.t 20) 1, none, 328960, 5, []⟩,
    ⟨(some 9), .mv (.t 24), none, 329216, 6, []⟩,
    ⟨(some 10), .mv (.t 25), none, 329472, 7, []⟩])
  (.reg [⟨(some 26), .mv (.t 7), none, 393216, 0, []⟩,
    ⟨(some 27), .faddr 4 (.t 3), none, 393472, 1, []⟩,
    ⟨(some 28), .load 1 false (.t 27), none, 393728, 2, []⟩,
    ⟨(some 29), .mv (.t 9), none, 393984, 3, []⟩,
    ⟨(some 30), .iaddr 1 (.t 28) (.t 29), none, 394240, 4, []⟩,
    ⟨(some 31), .load 1 false (.t 30), none, 394496, 5, []⟩,
    ⟨(some 32), .mv (.t 10), none, 394752, 6, []⟩,
    ⟨(some 33), .idx (.t 31) (.t 32), none, 395008, 7, []⟩,
    ⟨(some 34), .bslice true 1 [(.int .u8 0)] 1 [(0, (.t 33))], none, 395264, 8, []⟩,
    ⟨(some 35), .app true 1 1 (.t 26) (.t 34), none, 395520, 9, []⟩,
    ⟨(some 7), .mv (.t 35), none, 395776, 10, []⟩])))
  (.reg [⟨(some 18), .mv (.t 8), none, 262144, 0, []⟩,
    ⟨(some 19), .bin .add (.t 18) (.k (.int .i64 1)), none, 262400, 1, []⟩,
    ⟨(some 8), .mv (.t 19), none, 262656, 2, []⟩]))))))
 (.seq (.reg [⟨(some 36), .mv (.t 7), none, 458752, 0, []⟩,
   ⟨(some 37), .b2s (.t 36), none, 459008, 1, []⟩,
   ⟨(some 6), .mv (.t 37), none, 459264, 2, []⟩])
 (.ret))))⟩
/-- loop.example/g00849/laws.toStringS -/
def F106 : F := ⟨1, 22, [.t 2],
 .seq (.reg [⟨(some 2), .nil0 true 1, none, 0, 0, []⟩])
 (.seq (.reg [⟨(some 5), .mv (.t 0), none, 65536, 0, []⟩,
   ⟨(some 6), .len false (.t 5), none, 65792, 1, []⟩,
   ⟨(some 7), .mksl true 1 16 [(.str ByteArray.empty)] (.t 6) (.t 6), none, 66048, 2, []⟩,
   ⟨(some 3), .mv (.t 7), none, 66304, 3, []⟩])
 (.seq (.seq (.reg [⟨(some 4), .mv (.k (.int .i64 0)), none, 131072, 0, []⟩])
 (.block 0 (.loop [0, 3, 4] [0, 66048]
  (.seq (.seq (.reg [⟨(some 8), .mv (.t 4), none, 196608, 0, []⟩,
    ⟨(some 9), .mv (.t 0), none, 196864, 1, []⟩,
    ⟨(some 10), .len false (.t 9), none, 197120, 2, []⟩,
    ⟨(some 11), .bin .lss (.t 8) (.t 10), none, 197376, 3, []⟩])
  (.cond (.t 11)
   (.skip)
   (.exit 0)))
  (.seq (.block 1 (.reg [⟨(some 14), .mv (.t 3), none, 327680, 0, []⟩,
    ⟨(some 15), .mv (.t 4), none, 327936, 1, []⟩,
    ⟨(some 16), .mv (.t 0), none, 328192, 2, []⟩,
    ⟨(some 17), .mv (.t 4), none, 328448, 3, []⟩,
    ⟨(some 18), .iaddr 1 (.t 16) (.t 17), none, 328704, 4, []⟩,
    ⟨(some 19), .load 1 false (.t 18), none, 328960, 5, []⟩,
    ⟨(some 20), .iaddr 1 (.t 14) (.t 15), none, 329216, 6, []⟩,
    ⟨none, .store 1 (.t 20) (.t 19), none, 329472, 7, []⟩]))
  (.reg [⟨(some 12), .mv (.t 4), none, 262144, 0, []⟩,
    ⟨(some 13), .bin .add (.t 12) (.k (.int .i64 1)), none, 262400, 1, []⟩,
    ⟨(some 4), .mv (.t 13), none, 262656, 2, []⟩]))))))
 (.seq (.reg [⟨(some 21), .mv (.t 3), none, 393216, 0, []⟩,
   ⟨(some 2), .mv (.t 21), none, 393472, 1, []⟩])
 (.ret))))⟩
/-- (loop.example/g00849/impl.Wide).stripe -/
def F115 : F := ⟨1, 9, [.t 2],
 .seq (.reg [⟨(some 1), .box (.t 0), none, 0, 0, []⟩,
   ⟨(some 2), .mv (.k (.int .i64 0)), none, 256, 1, []⟩])
 (.seq (.reg [⟨(some 3), .faddr 0 (.t 1), none, 65536, 0, []⟩,
   ⟨(some 4), .faddr 0 (.t 3), none, 65792, 1, []⟩,
   ⟨(some 5), .load 1 false (.t 4), none, 66048, 2, []⟩,
   ⟨(some 6), .faddr 2 (.t 1), none, 66304, 3, []⟩,
   ⟨(some 7), .load 1 false (.t 6), none, 66560, 4, []⟩,
   ⟨(some 8), .bin .mul (.t 5) (.t 7), none, 66816, 5, []⟩,
   ⟨(some 2), .mv (.t 8), none, 67072, 6, []⟩])
 (.ret))⟩
/-- loop.example/g00849/impl.generator -/
def F129 : F := ⟨2, 40, [.cell 4 3 true],
 .seq (.reg [⟨(some 4), .alloc [(.int .i64 0), (.int .i64 0), (.nil true 1)], none, 0, 0, []⟩])
 (.seq (.reg [⟨(some 8), .mv (.t 0), none, 65536, 0, []⟩,
   ⟨(some 9), .call 154 [(.t 8)] false, none, 65792, 1, []⟩,
   ⟨(some 5), .alloc [(.int .i64 0), (.int .i64 0), (.nil true 1)], none, 66048, 2, []⟩,
   ⟨none, .store 3 (.t 5) (.t 9), none, 66304, 3, []⟩])
 (.seq (.reg [⟨(some 10), .mv (.t 0), none, 131072, 0, []⟩,
   ⟨(some 11), .mv (.t 1), none, 131328, 1, []⟩,
   ⟨(some 12), .bin .add (.t 10) (.t 11), none, 131584, 2, []⟩,
   ⟨(some 13), .faddr 0 (.t 5), none, 131840, 3, []⟩,
   ⟨none, .store 1 (.t 13) (.t 12), none, 132096, 4, []⟩])
 (.seq (.seq (.reg [⟨(some 14), .mv (.t 1), none, 196608, 0, []⟩,
   ⟨(some 15), .mv (.k (.int .i64 0)), none, 196864, 1, []⟩])
 (.block 0 (.loop [0, 4, 5, 14, 15] [0, 3, 65792, 65793, 65794, 65795, 66048, 66051, 66305, 66306, 66307, 132097, 786689, 786690, 786691]
  (.seq (.reg [⟨(some 16), .bin .lss (.t 15) (.t 14), none, 262144, 0, []⟩])
  (.seq (.cond (.t 16)
   (.skip)
   (.exit 0))
  (.seq (.block 1 (.seq (.reg [⟨(some 17), .mv (.t 15), none, 327680, 0, []⟩,
    ⟨(some 6), .mv (.t 17), none, 327936, 1, []⟩])
  (.seq (.reg [⟨(some 18), .mv (.t 0), none, 393216, 0, []⟩,
    ⟨(some 19), .mv (.k (.int .i64 0)), none, 393472, 1, []⟩])
  (.block 2 (.loop [0, 4, 5, 6, 14, 15, 18, 19] [0, 3, 65792, 65793, 65794, 65795, 66048, 66051, 66305, 66306, 66307, 132097, 786689, 786690, 786691]
   (.seq (.reg [⟨(some 20), .bin .lss (.t 19) (.t 18), none, 458752, 0, []⟩])
   (.seq (.cond (.t 20)
    (.skip)
    (.exit 2))
   (.seq (.block 3 (.seq (.reg [⟨(some 21), .mv (.t 19), none, 524288, 0, []⟩,
     ⟨(some 7), .mv (.t 21), none, 524544, 1, []⟩])
   (.reg [⟨(some 22), .faddr 2 (.t 5), none, 589824, 0, []⟩,
     ⟨(some 23), .load 1 false (.t 22), none, 590080, 1, []⟩,
     ⟨(some 24), .mv (.t 0), none, 590336, 2, []⟩,
     ⟨(some 25), .mv (.t 6), none, 590592, 3, []⟩,
     ⟨(some 26), .bin .add (.t 24) (.t 25), none, 590848, 4, []⟩,
     ⟨(some 27), .mv (.t 0), none, 591104, 5, []⟩,
     ⟨(some 28), .mv (.t 6), none, 591360, 6, []⟩,
     ⟨(some 29), .bin .add (.t 27) (.t 28), none, 591616, 7, []⟩,
     ⟨(some 30), .mv (.t 7), none, 591872, 8, []⟩,
     ⟨(some 31), .bin .xor (.t 29) (.t 30), none, 592128, 9, []⟩,
     ⟨(some 32), .call 157 [(.t 31)] true, none, 592384, 10, []⟩,
     ⟨(some 33), .call 158 [(.t 26), (.t 32)] true, none, 592640, 11, []⟩,
     ⟨(some 34), .bslice true 1 [(.int .i64 0)] 1 [(0, (.t 33))], none, 592896, 12, []⟩,
     ⟨(some 35), .app true 1 8 (.t 23) (.t 34), none, 593152, 13, []⟩,
     ⟨(some 36), .faddr 2 (.t 5), none, 593408, 14, []⟩,
     ⟨none, .store 1 (.t 36) (.t 35), none, 593664, 15, []⟩])))
   (.reg [⟨(some 37), .bin .add (.t 19) (.k (.int .i64 1)), none, 655360, 0, []⟩,
     ⟨(some 19), .mv (.t 37), none, 655616, 1, []⟩])))))))))
  (.reg [⟨(some 38), .bin .add (.t 15) (.k (.int .i64 1)), none, 720896, 0, []⟩,
    ⟨(some 15), .mv (.t 38), none, 721152, 1, []⟩])))))))
 (.seq (.reg [⟨(some 39), .load 3 true (.t 5), none, 786432, 0, []⟩,
   ⟨none, .store 3 (.t 4) (.t 39), none, 786688, 1, []⟩])
 (.ret)))))⟩
/-- (loop.example/g00849/impl.Matrix).pieces -/
def F131 : F := ⟨2, 44, [.t 4],
 .seq (.reg [⟨(some 2), .box (.t 0), none, 0, 0, []⟩,
   ⟨(some 4), .nil0 true 1, none, 256, 1, []⟩])
 (.seq (.reg [⟨(some 5), .nil0 true 1, none, 65536, 0, []⟩])
 (.seq (.seq (.reg [⟨(some 10), .faddr 0 (.t 2), none, 131072, 0, []⟩,
   ⟨(some 11), .load 1 false (.t 10), none, 131328, 1, []⟩,
   ⟨(some 12), .mv (.k (.int .i64 0)), none, 131584, 2, []⟩])
 (.block 0 (.loop [1, 2, 5, 11, 12] [0, 1, 2, 3, 4, 5, 256, 65536]
  (.seq (.reg [⟨(some 13), .bin .lss (.t 12) (.t 11), none, 196608, 0, []⟩])
  (.seq (.cond (.t 13)
   (.skip)
   (.exit 0))
  (.seq (.block 1 (.seq (.reg [⟨(some 14), .mv (.t 12), none, 262144, 0, []⟩,
    ⟨(some 6), .mv (.t 14), none, 262400, 1, []⟩])
  (.seq (.reg [⟨(some 15), .mv (.t 1), none, 327680, 0, []⟩,
    ⟨(some 16), .iaddr 1 (.t 15) (.k (.int .i64 0)), none, 327936, 1, []⟩,
    ⟨(some 17), .load 1 false (.t 16), none, 328192, 2, []⟩,
    ⟨(some 18), .len true (.t 17), none, 328448, 3, []⟩,
    ⟨(some 19), .call 135 [(.k (.str ⟨#[0]⟩)), (.t 18)] true, none, 328704, 4, []⟩,
    ⟨(some 7), .mv (.t 19), none, 328960, 5, []⟩])
  (.seq (.seq (.reg [⟨(some 20), .load 3 true (.t 2), none, 393216, 0, []⟩,
    ⟨(some 21), .mv (.t 6), none, 393472, 1, []⟩,
    ⟨(some 22), .call 155 [(.t 20), (.t 21)] false, none, 393728, 2, []⟩,
    ⟨(some 23), .len false (.t 22), none, 393984, 3, []⟩,
    ⟨(some 24), .mv (.k (.int .i64 0)), none, 394240, 4, []⟩])
  (.block 2 (.loop [1, 2, 5, 7, 11, 12, 22, 23, 24] [0, 1, 2, 3, 4, 5, 256, 65536, 393728, 393729, 393730, 393731, 721408, 721664]
   (.seq (.reg [⟨(some 25), .bin .lss (.t 24) (.t 23), none, 458752, 0, []⟩])
   (.seq (.cond (.t 25)
    (.skip)
    (.exit 2))
   (.seq (.block 3 (.seq (.reg [⟨(some 26), .mv (.t 24), none, 524288, 0, []⟩,
     ⟨(some 27), .iaddr 1 (.t 22) (.t 24), none, 524544, 1, []⟩,
     ⟨(some 28), .load 1 false (.t 27), none, 524800, 2, []⟩,
     ⟨(some 8), .mv (.t 26), none, 525056, 3, []⟩,
     ⟨(some 9), .mv (.t 28), none, 525312, 4, []⟩])
   (.reg [⟨(some 29), .mv (.t 7), none, 589824, 0, []⟩,
     ⟨(some 30), .mv (.t 9), none, 590080, 1, []⟩,
     ⟨(some 31), .mv (.t 1), none, 590336, 2, []⟩,
     ⟨(some 32), .mv (.t 8), none, 590592, 3, []⟩,
     ⟨(some 33), .iaddr 1 (.t 31) (.t 32), none, 590848, 4, []⟩,
     ⟨(some 34), .load 1 false (.t 33), none, 591104, 5, []⟩,
     ⟨(some 35), .call 159 [(.t 30), (.t 34)] true, none, 591360, 6, []⟩,
     ⟨(some 36), .call 147 [(.t 29), (.t 35)] true, none, 591616, 7, []⟩,
     ⟨(some 7), .mv (.t 36), none, 591872, 8, []⟩])))
   (.reg [⟨(some 37), .bin .add (.t 24) (.k (.int .i64 1)), none, 655360, 0, []⟩,
     ⟨(some 24), .mv (.t 37), none, 655616, 1, []⟩])))))))
  (.reg [⟨(some 38), .mv (.t 5), none, 720896, 0, []⟩,
    ⟨(some 39), .mv (.t 7), none, 721152, 1, []⟩,
    ⟨(some 40), .bslice true 1 [(.str ByteArray.empty)] 1 [(0, (.t 39))], none, 721408, 2, []⟩,
    ⟨(some 41), .app true 1 16 (.t 38) (.t 40), none, 721664, 3, []⟩,
    ⟨(some 5), .mv (.t 41), none, 721920, 4, []⟩])))))
  (.reg [⟨(some 42), .bin .add (.t 12) (.k (.int .i64 1)), none, 786432, 0, []⟩,
    ⟨(some 12), .mv (.t 42), none, 786688, 1, []⟩])))))))
 (.seq (.reg [⟨(some 43), .mv (.t 5), none, 851968, 0, []⟩,
   ⟨(some 4), .mv (.t 43), none, 852224, 1, []⟩])
 (.ret))))⟩
/-- loop.example/g00849/spec.l03Pieces -/
def F132 : F := ⟨2, 48, [.t 4],
 .seq (.reg [⟨(some 2), .box (.t 0), none, 0, 0, []⟩,
   ⟨(some 4), .nil0 true 1, none, 256, 1, []⟩])
 (.seq (.reg [⟨(some 9), .bslice true 1 [(.str ByteArray.empty)] 0 [], none, 65536, 0, []⟩,
   ⟨(some 5), .mv (.t 9), none, 65792, 1, []⟩])
 (.seq (.seq (.reg [⟨(some 6), .mv (.k (.int .i64 0)), none, 131072, 0, []⟩])
 (.block 0 (.loop [1, 2, 5, 6] [0, 1, 2, 3, 4, 5, 256, 65536]
  (.seq (.seq (.reg [⟨(some 10), .mv (.t 6), none, 196608, 0, []⟩,
    ⟨(some 11), .faddr 0 (.t 2), none, 196864, 1, []⟩,
    ⟨(some 12), .load 1 false (.t 11), none, 197120, 2, []⟩,
    ⟨(some 13), .bin .lss (.t 10) (.t 12), none, 197376, 3, []⟩])
  (.cond (.t 13)
   (.skip)
   (.exit 0)))
  (.seq (.block 1 (.seq (.reg [⟨(some 16), .mv (.t 1), none, 327680, 0, []⟩,
    ⟨(some 17), .iaddr 1 (.t 16) (.k (.int .i64 0)), none, 327936, 1, []⟩,
    ⟨(some 18), .load 1 false (.t 17), none, 328192, 2, []⟩,
    ⟨(some 19), .call 160 [(.k (.int .i64 0)), (.t 18)] true, none, 328448, 3, []⟩,
    ⟨(some 7), .mv (.t 19), none, 328704, 4, []⟩])
  (.seq (.seq (.reg [⟨(some 8), .mv (.k (.int .i64 0)), none, 393216, 0, []⟩])
  (.block 2 (.loop [1, 2, 5, 6, 7, 8] [0, 1, 2, 3, 4, 5, 256, 65536, 655872, 656128]
   (.seq (.seq (.reg [⟨(some 20), .mv (.t 8), none, 458752, 0, []⟩,
     ⟨(some 21), .faddr 1 (.t 2), none, 459008, 1, []⟩,
     ⟨(some 22), .load 1 false (.t 21), none, 459264, 2, []⟩,
     ⟨(some 23), .bin .lss (.t 20) (.t 22), none, 459520, 3, []⟩])
   (.cond (.t 23)
    (.skip)
    (.exit 2)))
   (.seq (.block 3 (.reg [⟨(some 26), .mv (.t 7), none, 589824, 0, []⟩,
     ⟨(some 27), .faddr 2 (.t 2), none, 590080, 1, []⟩,
     ⟨(some 28), .load 1 false (.t 27), none, 590336, 2, []⟩,
     ⟨(some 29), .mv (.t 6), none, 590592, 3, []⟩,
     ⟨(some 30), .faddr 1 (.t 2), none, 590848, 4, []⟩,
     ⟨(some 31), .load 1 false (.t 30), none, 591104, 5, []⟩,
     ⟨(some 32), .bin .mul (.t 29) (.t 31), none, 591360, 6, []⟩,
     ⟨(some 33), .mv (.t 8), none, 591616, 7, []⟩,
     ⟨(some 34), .bin .add (.t 32) (.t 33), none, 591872, 8, []⟩,
     ⟨(some 35), .iaddr 1 (.t 28) (.t 34), none, 592128, 9, []⟩,
     ⟨(some 36), .load 1 false (.t 35), none, 592384, 10, []⟩,
     ⟨(some 37), .mv (.t 1), none, 592640, 11, []⟩,
     ⟨(some 38), .mv (.t 8), none, 592896, 12, []⟩,
     ⟨(some 39), .iaddr 1 (.t 37) (.t 38), none, 593152, 13, []⟩,
     ⟨(some 40), .load 1 false (.t 39), none, 593408, 14, []⟩,
     ⟨(some 41), .call 160 [(.t 36), (.t 40)] true, none, 593664, 15, []⟩,
     ⟨(some 42), .call 146 [(.t 26), (.t 41)] true, none, 593920, 16, []⟩,
     ⟨(some 7), .mv (.t 42), none, 594176, 17, []⟩]))
   (.reg [⟨(some 24), .mv (.t 8), none, 524288, 0, []⟩,
     ⟨(some 25), .bin .add (.t 24) (.k (.int .i64 1)), none, 524544, 1, []⟩,
     ⟨(some 8), .mv (.t 25), none, 524800, 2, []⟩]))))))
  (.reg [⟨(some 43), .mv (.t 5), none, 655360, 0, []⟩,
    ⟨(some 44), .mv (.t 7), none, 655616, 1, []⟩,
    ⟨(some 45), .bslice true 1 [(.str ByteArray.empty)] 1 [(0, (.t 44))], none, 655872, 2, []⟩,
    ⟨(some 46), .app true 1 16 (.t 43) (.t 45), none, 656128, 3, []⟩,
    ⟨(some 5), .mv (.t 46), none, 656384, 4, []⟩]))))
  (.reg [⟨(some 14), .mv (.t 6), none, 262144, 0, []⟩,
    ⟨(some 15), .bin .add (.t 14) (.k (.int .i64 1)), none, 262400, 1, []⟩,
    ⟨(some 6), .mv (.t 15), none, 262656, 2, []⟩]))))))
 (.seq (.reg [⟨(some 47), .mv (.t 5), none, 720896, 0, []⟩,
   ⟨(some 4), .mv (.t 47), none, 721152, 1, []⟩])
 (.ret))))⟩
/-- loop.example/g00849/spec.l03Code -/
def F133 : F := ⟨2, 40, [.cell 4 3 true],
 .seq (.reg [⟨(some 4), .alloc [(.int .i64 0), (.int .i64 0), (.nil true 1)], none, 0, 0, []⟩])
 (.seq (.reg [⟨(some 8), .mv (.t 0), none, 65536, 0, []⟩,
   ⟨(some 9), .call 161 [(.t 8)] false, none, 65792, 1, []⟩,
   ⟨(some 5), .alloc [(.int .i64 0), (.int .i64 0), (.nil true 1)], none, 66048, 2, []⟩,
   ⟨none, .store 3 (.t 5) (.t 9), none, 66304, 3, []⟩])
 (.seq (.reg [⟨(some 10), .mv (.t 0), none, 131072, 0, []⟩,
   ⟨(some 11), .mv (.t 1), none, 131328, 1, []⟩,
   ⟨(some 12), .bin .add (.t 10) (.t 11), none, 131584, 2, []⟩,
   ⟨(some 13), .faddr 0 (.t 5), none, 131840, 3, []⟩,
   ⟨none, .store 1 (.t 13) (.t 12), none, 132096, 4, []⟩])
 (.seq (.seq (.reg [⟨(some 6), .mv (.k (.int .i64 0)), none, 196608, 0, []⟩])
 (.block 0 (.loop [0, 1, 4, 5, 6] [0, 3, 65792, 65793, 65794, 65795, 66048, 66051, 66305, 66306, 66307, 132097, 655617, 655618, 655619]
  (.seq (.seq (.reg [⟨(some 14), .mv (.t 6), none, 262144, 0, []⟩,
    ⟨(some 15), .mv (.t 1), none, 262400, 1, []⟩,
    ⟨(some 16), .bin .lss (.t 14) (.t 15), none, 262656, 2, []⟩])
  (.cond (.t 16)
   (.skip)
   (.exit 0)))
  (.seq (.block 1 (.seq (.reg [⟨(some 7), .mv (.k (.int .i64 0)), none, 393216, 0, []⟩])
  (.block 2 (.loop [0, 1, 4, 5, 6, 7] [0, 3, 65792, 65793, 65794, 65795, 66048, 66051, 66305, 66306, 66307, 132097, 655617, 655618, 655619]
   (.seq (.seq (.reg [⟨(some 19), .mv (.t 7), none, 458752, 0, []⟩,
     ⟨(some 20), .mv (.t 0), none, 459008, 1, []⟩,
     ⟨(some 21), .bin .lss (.t 19) (.t 20), none, 459264, 2, []⟩])
   (.cond (.t 21)
    (.skip)
    (.exit 2)))
   (.seq (.block 3 (.reg [⟨(some 24), .faddr 2 (.t 5), none, 589824, 0, []⟩,
     ⟨(some 25), .load 1 false (.t 24), none, 590080, 1, []⟩,
     ⟨(some 26), .mv (.t 0), none, 590336, 2, []⟩,
     ⟨(some 27), .mv (.t 6), none, 590592, 3, []⟩,
     ⟨(some 28), .bin .add (.t 26) (.t 27), none, 590848, 4, []⟩,
     ⟨(some 29), .mv (.t 0), none, 591104, 5, []⟩,
     ⟨(some 30), .mv (.t 6), none, 591360, 6, []⟩,
     ⟨(some 31), .bin .add (.t 29) (.t 30), none, 591616, 7, []⟩,
     ⟨(some 32), .mv (.t 7), none, 591872, 8, []⟩,
     ⟨(some 33), .bin .xor (.t 31) (.t 32), none, 592128, 9, []⟩,
     ⟨(some 34), .call 163 [(.t 33)] true, none, 592384, 10, []⟩,
     ⟨(some 35), .call 162 [(.t 28), (.t 34)] true, none, 592640, 11, []⟩,
     ⟨(some 36), .bslice true 1 [(.int .i64 0)] 1 [(0, (.t 35))], none, 592896, 12, []⟩,
     ⟨(some 37), .app true 1 8 (.t 25) (.t 36), none, 593152, 13, []⟩,
     ⟨(some 38), .faddr 2 (.t 5), none, 593408, 14, []⟩,
     ⟨none, .store 1 (.t 38) (.t 37), none, 593664, 15, []⟩]))
   (.reg [⟨(some 22), .mv (.t 7), none, 524288, 0, []⟩,
     ⟨(some 23), .bin .add (.t 22) (.k (.int .i64 1)), none, 524544, 1, []⟩,
     ⟨(some 7), .mv (.t 23), none, 524800, 2, []⟩])))))))
  (.reg [⟨(some 17), .mv (.t 6), none, 327680, 0, []⟩,
    ⟨(some 18), .bin .add (.t 17) (.k (.int .i64 1)), none, 327936, 1, []⟩,
    ⟨(some 6), .mv (.t 18), none, 328192, 2, []⟩]))))))
 (.seq (.reg [⟨(some 39), .load 3 true (.t 5), none, 655360, 0, []⟩,
   ⟨none, .store 3 (.t 4) (.t 39), none, 655616, 1, []⟩])
 (.ret)))))⟩
/-- loop.example/g00849/spec.l05Tall -/
def F136 : F := ⟨3, 20, [.t 6],
 .seq (.reg [⟨(some 3), .box (.t 0), none, 0, 0, []⟩,
   ⟨(some 6), .mv (.k (.int .i64 0)), none, 256, 1, []⟩])
 (.seq (.reg [⟨(some 8), .faddr 0 (.t 3), none, 65536, 0, []⟩,
   ⟨(some 9), .load 1 false (.t 8), none, 65792, 1, []⟩,
   ⟨(some 10), .mv (.t 1), none, 66048, 2, []⟩,
   ⟨(some 11), .bin .mul (.t 9) (.t 10), none, 66304, 3, []⟩,
   ⟨(some 7), .mv (.t 11), none, 66560, 4, []⟩])
 (.seq (.reg [⟨(some 12), .mv (.t 2), none, 131072, 0, []⟩,
   ⟨(some 13), .mv (.t 7), none, 131328, 1, []⟩,
   ⟨(some 14), .bin .add (.t 12) (.t 13), none, 131584, 2, []⟩,
   ⟨(some 15), .bin .sub (.t 14) (.k (.int .i64 1)), none, 131840, 3, []⟩,
   ⟨(some 16), .mv (.t 7), none, 132096, 4, []⟩,
   ⟨(some 17), .bin .quo (.t 15) (.t 16), none, 132352, 5, []⟩,
   ⟨(some 18), .mv (.t 1), none, 132608, 6, []⟩,
   ⟨(some 19), .bin .mul (.t 17) (.t 18), none, 132864, 7, []⟩,
   ⟨(some 6), .mv (.t 19), none, 133120, 8, []⟩])
 (.ret)))⟩
/-- slices.IndexFunc[[]string,string] -/
def F138 : F := ⟨2, 19, [.t 4],
 .seq (.reg [⟨(some 4), .mv (.k (.int .i64 0)), none, 0, 0, []⟩])
 (.seq (.seq (.reg [⟨(some 6), .mv (.t 0), none, 65536, 0, []⟩,
   ⟨(some 7), .len false (.t 6), none, 65792, 1, []⟩,
   ⟨(some 8), .mv (.k (.int .i64 0)), none, 66048, 2, []⟩])
 (.block 0 (.loop [0, 1, 7, 8] []
  (.seq (.reg [⟨(some 9), .bin .lss (.t 8) (.t 7), none, 131072, 0, []⟩])
  (.seq (.cond (.t 9)
   (.skip)
   (.exit 0))
  (.seq (.block 1 (.seq (.reg [⟨(some 10), .mv (.t 8), none, 196608, 0, []⟩,
    ⟨(some 5), .mv (.t 10), none, 196864, 1, []⟩])
  (.seq (.reg [⟨(some 11), .mv (.t 1), none, 262144, 0, []⟩,
    ⟨(some 12), .mv (.t 0), none, 262400, 1, []⟩,
    ⟨(some 13), .mv (.t 5), none, 262656, 2, []⟩,
    ⟨(some 14), .iaddr 1 (.t 12) (.t 13), none, 262912, 3, []⟩,
    ⟨(some 15), .load 1 false (.t 14), none, 263168, 4, []⟩,
    ⟨(some 16), .callv (.t 11) [(.t 15)] true, none, 263424, 5, []⟩])
  (.cond (.t 16)
   (.seq (.reg [⟨(some 17), .mv (.t 5), none, 327680, 0, []⟩,
     ⟨(some 4), .mv (.t 17), none, 327936, 1, []⟩])
   (.ret))
   (.skip)))))
  (.reg [⟨(some 18), .bin .add (.t 8) (.k (.int .i64 1)), none, 393216, 0, []⟩,
    ⟨(some 8), .mv (.t 18), none, 393472, 1, []⟩])))))))
 (.seq (.reg [⟨(some 4), .mv (.k (.int .i64 (-1))), none, 458752, 0, []⟩])
 (.ret)))⟩
/-- loop.example/g00849/spec.l05Cell -/
def F139 : F := ⟨2, 32, [.t 4, .t 5],
 .seq (.reg [⟨(some 2), .box (.t 0), none, 0, 0, []⟩,
   ⟨(some 4), .mv (.k (.int .i64 0)), none, 256, 1, []⟩,
   ⟨(some 5), .mv (.k (.int .i64 0)), none, 512, 2, []⟩])
 (.seq (.reg [⟨(some 8), .faddr 0 (.t 2), none, 65536, 0, []⟩,
   ⟨(some 9), .faddr 0 (.t 8), none, 65792, 1, []⟩,
   ⟨(some 10), .load 1 false (.t 9), none, 66048, 2, []⟩,
   ⟨(some 11), .faddr 2 (.t 2), none, 66304, 3, []⟩,
   ⟨(some 12), .load 1 false (.t 11), none, 66560, 4, []⟩,
   ⟨(some 13), .bin .mul (.t 10) (.t 12), none, 66816, 5, []⟩,
   ⟨(some 6), .mv (.t 13), none, 67072, 6, []⟩])
 (.seq (.reg [⟨(some 14), .mv (.t 1), none, 131072, 0, []⟩,
   ⟨(some 15), .mv (.t 6), none, 131328, 1, []⟩,
   ⟨(some 16), .bin .rem (.t 14) (.t 15), none, 131584, 2, []⟩,
   ⟨(some 7), .mv (.t 16), none, 131840, 3, []⟩])
 (.seq (.reg [⟨(some 17), .mv (.t 7), none, 196608, 0, []⟩,
   ⟨(some 18), .faddr 2 (.t 2), none, 196864, 1, []⟩,
   ⟨(some 19), .load 1 false (.t 18), none, 197120, 2, []⟩,
   ⟨(some 20), .bin .quo (.t 17) (.t 19), none, 197376, 3, []⟩,
   ⟨(some 21), .mv (.t 1), none, 197632, 4, []⟩,
   ⟨(some 22), .mv (.t 6), none, 197888, 5, []⟩,
   ⟨(some 23), .bin .quo (.t 21) (.t 22), none, 198144, 6, []⟩,
   ⟨(some 24), .faddr 2 (.t 2), none, 198400, 7, []⟩,
   ⟨(some 25), .load 1 false (.t 24), none, 198656, 8, []⟩,
   ⟨(some 26), .bin .mul (.t 23) (.t 25), none, 198912, 9, []⟩,
   ⟨(some 27), .mv (.t 7), none, 199168, 10, []⟩,
   ⟨(some 28), .faddr 2 (.t 2), none, 199424, 11, []⟩,
   ⟨(some 29), .load 1 false (.t 28), none, 199680, 12, []⟩,
   ⟨(some 30), .bin .rem (.t 27) (.t 29), none, 199936, 13, []⟩,
   ⟨(some 31), .bin .add (.t 26) (.t 30), none, 200192, 14, []⟩,
   ⟨(some 4), .mv (.t 20), none, 200448, 15, []⟩,
   ⟨(some 5), .mv (.t 31), none, 200704, 16, []⟩])
 (.ret))))⟩
/-- loop.example/g00849/spec.l02Sum -/
def F146 : F := ⟨2, 26, [.t 4],
 .seq (.reg [⟨(some 4), .mv (.k (.str ByteArray.empty)), none, 0, 0, []⟩])
 (.seq (.reg [⟨(some 7), .bslice true 1 [(.int .u8 0)] 0 [], none, 65536, 0, []⟩,
   ⟨(some 5), .mv (.t 7), none, 65792, 1, []⟩])
 (.seq (.seq (.reg [⟨(some 6), .mv (.k (.int .i64 0)), none, 131072, 0, []⟩])
 (.block 0 (.loop [0, 1, 5, 6] [65536]
  (.seq (.seq (.reg [⟨(some 8), .mv (.t 6), none, 196608, 0, []⟩,
    ⟨(some 9), .mv (.t 0), none, 196864, 1, []⟩,
    ⟨(some 10), .len true (.t 9), none, 197120, 2, []⟩,
    ⟨(some 11), .bin .lss (.t 8) (.t 10), none, 197376, 3, []⟩])
  (.cond (.t 11)
   (.skip)
   (.exit 0)))
  (.seq (.block 1 (.reg [⟨(some 14), .mv (.t 5), none, 327680, 0, []⟩,
    ⟨(some 15), .mv (.t 0), none, 327936, 1, []⟩,
    ⟨(some 16), .mv (.t 6), none, 328192, 2, []⟩,
    ⟨(some 17), .idx (.t 15) (.t 16), none, 328448, 3, []⟩,
    ⟨(some 18), .mv (.t 1), none, 328704, 4, []⟩,
    ⟨(some 19), .mv (.t 6), none, 328960, 5, []⟩,
    ⟨(some 20), .idx (.t 18) (.t 19), none, 329216, 6, []⟩,
    ⟨(some 21), .bin .xor (.t 17) (.t 20), none, 329472, 7, []⟩,
    ⟨(some 22), .bslice true 1 [(.int .u8 0)] 1 [(0, (.t 21))], none, 329728, 8, []⟩,
    ⟨(some 23), .app true 1 1 (.t 14) (.t 22), none, 329984, 9, []⟩,
    ⟨(some 5), .mv (.t 23), none, 330240, 10, []⟩]))
  (.reg [⟨(some 12), .mv (.t 6), none, 262144, 0, []⟩,
    ⟨(some 13), .bin .add (.t 12) (.k (.int .i64 1)), none, 262400, 1, []⟩,
    ⟨(some 6), .mv (.t 13), none, 262656, 2, []⟩]))))))
 (.seq (.reg [⟨(some 24), .mv (.t 5), none, 393216, 0, []⟩,
   ⟨(some 25), .b2s (.t 24), none, 393472, 1, []⟩,
   ⟨(some 4), .mv (.t 25), none, 393728, 2, []⟩])
 (.ret))))⟩
/-- loop.example/g00849/impl.summed -/
def F147 : F := ⟨2, 28, [.t 4],
 .seq (.reg [⟨(some 4), .mv (.k (.str ByteArray.empty)), none, 0, 0, []⟩])
 (.seq (.reg [⟨(some 7), .mv (.t 0), none, 65536, 0, []⟩,
   ⟨(some 8), .len true (.t 7), none, 65792, 1, []⟩,
   ⟨(some 9), .mksl true 1 1 [(.int .u8 0)] (.t 8) (.t 8), none, 66048, 2, []⟩,
   ⟨(some 5), .mv (.t 9), none, 66304, 3, []⟩])
 (.seq (.seq (.reg [⟨(some 10), .mv (.t 5), none, 131072, 0, []⟩,
   ⟨(some 11), .len false (.t 10), none, 131328, 1, []⟩,
   ⟨(some 12), .mv (.k (.int .i64 0)), none, 131584, 2, []⟩])
 (.block 0 (.loop [0, 1, 5, 11, 12] [66048]
  (.seq (.reg [⟨(some 13), .bin .lss (.t 12) (.t 11), none, 196608, 0, []⟩])
  (.seq (.cond (.t 13)
   (.skip)
   (.exit 0))
  (.seq (.block 1 (.seq (.reg [⟨(some 14), .mv (.t 12), none, 262144, 0, []⟩,
    ⟨(some 6), .mv (.t 14), none, 262400, 1, []⟩])
  (.reg [⟨(some 15), .mv (.t 5), none, 327680, 0, []⟩,
    ⟨(some 16), .mv (.t 6), none, 327936, 1, []⟩,
    ⟨(some 17), .mv (.t 0), none, 328192, 2, []⟩,
    ⟨(some 18), .mv (.t 6), none, 328448, 3, []⟩,
    ⟨(some 19), .idx (.t 17) (.t 18), none, 328704, 4, []⟩,
    ⟨(some 20), .mv (.t 1), none, 328960, 5, []⟩,
    ⟨(some 21), .mv (.t 6), none, 329216, 6, []⟩,
    ⟨(some 22), .idx (.t 20) (.t 21), none, 329472, 7, []⟩,
    ⟨(some 23), .bin .xor (.t 19) (.t 22), none, 329728, 8, []⟩,
    ⟨(some 24), .iaddr 1 (.t 15) (.t 16), none, 329984, 9, []⟩,
    ⟨none, .store 1 (.t 24) (.t 23), none, 330240, 10, []⟩])))
  (.reg [⟨(some 25), .bin .add (.t 12) (.k (.int .i64 1)), none, 393216, 0, []⟩,
    ⟨(some 12), .mv (.t 25), none, 393472, 1, []⟩])))))))
 (.seq (.reg [⟨(some 26), .mv (.t 5), none, 458752, 0, []⟩,
   ⟨(some 27), .b2s (.t 26), none, 459008, 1, []⟩,
   ⟨(some 4), .mv (.t 27), none, 459264, 2, []⟩])
 (.ret))))⟩
/-- loop.example/g00849/impl.unit -/
def F154 : F := ⟨1, 23, [.cell 2 3 true],
 .seq (.reg [⟨(some 2), .alloc [(.int .i64 0), (.int .i64 0), (.nil true 1)], none, 0, 0, []⟩])
 (.seq (.reg [⟨(some 5), .mv (.t 0), none, 65536, 0, []⟩,
   ⟨(some 6), .mv (.t 0), none, 65792, 1, []⟩,
   ⟨(some 7), .mv (.t 0), none, 66048, 2, []⟩,
   ⟨(some 8), .mv (.t 0), none, 66304, 3, []⟩,
   ⟨(some 9), .bin .mul (.t 7) (.t 8), none, 66560, 4, []⟩,
   ⟨(some 10), .mksl true 1 8 [(.int .i64 0)] (.t 9) (.t 9), none, 66816, 5, []⟩,
   ⟨(some 11), .build [(.int .i64 0), (.int .i64 0), (.nil true 1)] [(0, 1, (.t 5)), (1, 1, (.t 6)), (2, 1, (.t 10))], none, 67072, 6, []⟩,
   ⟨(some 3), .alloc [(.int .i64 0), (.int .i64 0), (.nil true 1)], none, 67328, 7, []⟩,
   ⟨none, .store 3 (.t 3) (.t 11), none, 67584, 8, []⟩])
 (.seq (.seq (.reg [⟨(some 12), .mv (.t 0), none, 131072, 0, []⟩,
   ⟨(some 13), .mv (.k (.int .i64 0)), none, 131328, 1, []⟩])
 (.block 0 (.loop [2, 3, 12, 13] [0, 3, 66816, 67328, 67331, 67585, 67586, 67587, 459009, 459010, 459011]
  (.seq (.reg [⟨(some 14), .bin .lss (.t 13) (.t 12), none, 196608, 0, []⟩])
  (.seq (.cond (.t 14)
   (.skip)
   (.exit 0))
  (.seq (.block 1 (.seq (.reg [⟨(some 15), .mv (.t 13), none, 262144, 0, []⟩,
    ⟨(some 4), .mv (.t 15), none, 262400, 1, []⟩])
  (.reg [⟨(some 16), .load 3 true (.t 3), none, 327680, 0, []⟩,
    ⟨(some 17), .mv (.t 4), none, 327936, 1, []⟩,
    ⟨(some 18), .call 155 [(.t 16), (.t 17)] false, none, 328192, 2, []⟩,
    ⟨(some 19), .mv (.t 4), none, 328448, 3, []⟩,
    ⟨(some 20), .iaddr 1 (.t 18) (.t 19), none, 328704, 4, []⟩,
    ⟨none, .store 1 (.t 20) (.k (.int .i64 1)), none, 328960, 5, []⟩])))
  (.reg [⟨(some 21), .bin .add (.t 13) (.k (.int .i64 1)), none, 393216, 0, []⟩,
    ⟨(some 13), .mv (.t 21), none, 393472, 1, []⟩])))))))
 (.seq (.reg [⟨(some 22), .load 3 true (.t 3), none, 458752, 0, []⟩,
   ⟨none, .store 3 (.t 2) (.t 22), none, 459008, 1, []⟩])
 (.ret))))⟩
/-- (loop.example/g00849/impl.Matrix).row -/
def F155 : F := ⟨2, 17, [.t 4],
 .seq (.reg [⟨(some 2), .box (.t 0), none, 0, 0, []⟩,
   ⟨(some 4), .nil0 true 1, none, 256, 1, []⟩])
 (.seq (.reg [⟨(some 5), .faddr 2 (.t 2), none, 65536, 0, []⟩,
   ⟨(some 6), .load 1 false (.t 5), none, 65792, 1, []⟩,
   ⟨(some 7), .mv (.t 1), none, 66048, 2, []⟩,
   ⟨(some 8), .faddr 1 (.t 2), none, 66304, 3, []⟩,
   ⟨(some 9), .load 1 false (.t 8), none, 66560, 4, []⟩,
   ⟨(some 10), .bin .mul (.t 7) (.t 9), none, 66816, 5, []⟩,
   ⟨(some 11), .mv (.t 1), none, 67072, 6, []⟩,
   ⟨(some 12), .bin .add (.t 11) (.k (.int .i64 1)), none, 67328, 7, []⟩,
   ⟨(some 13), .faddr 1 (.t 2), none, 67584, 8, []⟩,
   ⟨(some 14), .load 1 false (.t 13), none, 67840, 9, []⟩,
   ⟨(some 15), .bin .mul (.t 12) (.t 14), none, 68096, 10, []⟩,
   ⟨(some 16), .cut 1 (.t 6) (some (.t 10)) (some (.t 15)), none, 68352, 11, []⟩,
   ⟨(some 4), .mv (.t 16), none, 68608, 12, []⟩])
 (.ret))⟩
/-- loop.example/g00849/impl.inverse -/
def F157 : F := ⟨1, 5, [.t 2],
 .seq (.reg [⟨(some 2), .mv (.k (.int .i64 0)), none, 0, 0, []⟩])
 (.seq (.reg [⟨(some 3), .mv (.t 0), none, 65536, 0, []⟩,
   ⟨(some 4), .call 173 [(.t 3), (.k (.int .i64 254))] true, none, 65792, 1, []⟩,
   ⟨(some 2), .mv (.t 4), none, 66048, 2, []⟩])
 (.ret))⟩
/-- loop.example/g00849/impl.times -/
def F158 : F := ⟨2, 19, [.t 4],
 .seq (.reg [⟨(some 4), .mv (.k (.int .i64 0)), none, 0, 0, []⟩])
 (.seq (.reg [⟨(some 5), .mv (.k (.int .i64 0)), none, 65536, 0, []⟩])
 (.seq (.block 0 (.loop [0, 1, 5] []
  (.seq (.seq (.reg [⟨(some 6), .mv (.t 1), none, 131072, 0, []⟩,
    ⟨(some 7), .bin .gtr (.t 6) (.k (.int .i64 0)), none, 131328, 1, []⟩])
  (.cond (.t 7)
   (.skip)
   (.exit 0)))
  (.seq (.block 1 (.seq (.seq (.reg [⟨(some 10), .mv (.t 1), none, 262144, 0, []⟩,
    ⟨(some 11), .bin .rem (.t 10) (.k (.int .i64 2)), none, 262400, 1, []⟩,
    ⟨(some 12), .bin .eql (.t 11) (.k (.int .i64 1)), none, 262656, 2, []⟩])
  (.cond (.t 12)
   (.reg [⟨(some 13), .mv (.t 5), none, 327680, 0, []⟩,
     ⟨(some 14), .mv (.t 0), none, 327936, 1, []⟩,
     ⟨(some 15), .bin .xor (.t 13) (.t 14), none, 328192, 2, []⟩,
     ⟨(some 5), .mv (.t 15), none, 328448, 3, []⟩])
   (.skip)))
  (.reg [⟨(some 16), .mv (.t 0), none, 393216, 0, []⟩,
    ⟨(some 17), .call 174 [(.t 16)] true, none, 393472, 1, []⟩,
    ⟨(some 0), .mv (.t 17), none, 393728, 2, []⟩])))
  (.reg [⟨(some 8), .mv (.t 1), none, 196608, 0, []⟩,
    ⟨(some 9), .bin .quo (.t 8) (.k (.int .i64 2)), none, 196864, 1, []⟩,
    ⟨(some 1), .mv (.t 9), none, 197120, 2, []⟩])))))
 (.seq (.reg [⟨(some 18), .mv (.t 5), none, 458752, 0, []⟩,
   ⟨(some 4), .mv (.t 18), none, 459008, 1, []⟩])
 (.ret))))⟩
/-- loop.example/g00849/impl.scaled -/
def F159 : F := ⟨2, 28, [.t 4],
 .seq (.reg [⟨(some 4), .mv (.k (.str ByteArray.empty)), none, 0, 0, []⟩])
 (.seq (.reg [⟨(some 7), .mv (.t 1), none, 65536, 0, []⟩,
   ⟨(some 8), .len true (.t 7), none, 65792, 1, []⟩,
   ⟨(some 9), .mksl true 1 1 [(.int .u8 0)] (.t 8) (.t 8), none, 66048, 2, []⟩,
   ⟨(some 5), .mv (.t 9), none, 66304, 3, []⟩])
 (.seq (.seq (.reg [⟨(some 10), .mv (.t 5), none, 131072, 0, []⟩,
   ⟨(some 11), .len false (.t 10), none, 131328, 1, []⟩,
   ⟨(some 12), .mv (.k (.int .i64 0)), none, 131584, 2, []⟩])
 (.block 0 (.loop [0, 1, 5, 11, 12] [66048]
  (.seq (.reg [⟨(some 13), .bin .lss (.t 12) (.t 11), none, 196608, 0, []⟩])
  (.seq (.cond (.t 13)
   (.skip)
   (.exit 0))
  (.seq (.block 1 (.seq (.reg [⟨(some 14), .mv (.t 12), none, 262144, 0, []⟩,
    ⟨(some 6), .mv (.t 14), none, 262400, 1, []⟩])
  (.reg [⟨(some 15), .mv (.t 5), none, 327680, 0, []⟩,
    ⟨(some 16), .mv (.t 6), none, 327936, 1, []⟩,
    ⟨(some 17), .mv (.t 0), none, 328192, 2, []⟩,
    ⟨(some 18), .mv (.t 1), none, 328448, 3, []⟩,
    ⟨(some 19), .mv (.t 6), none, 328704, 4, []⟩,
    ⟨(some 20), .idx (.t 18) (.t 19), none, 328960, 5, []⟩,
    ⟨(some 21), .conv .i64 (.t 20), none, 329216, 6, []⟩,
    ⟨(some 22), .call 158 [(.t 17), (.t 21)] true, none, 329472, 7, []⟩,
    ⟨(some 23), .conv .u8 (.t 22), none, 329728, 8, []⟩,
    ⟨(some 24), .iaddr 1 (.t 15) (.t 16), none, 329984, 9, []⟩,
    ⟨none, .store 1 (.t 24) (.t 23), none, 330240, 10, []⟩])))
  (.reg [⟨(some 25), .bin .add (.t 12) (.k (.int .i64 1)), none, 393216, 0, []⟩,
    ⟨(some 12), .mv (.t 25), none, 393472, 1, []⟩])))))))
 (.seq (.reg [⟨(some 26), .mv (.t 5), none, 458752, 0, []⟩,
   ⟨(some 27), .b2s (.t 26), none, 459008, 1, []⟩,
   ⟨(some 4), .mv (.t 27), none, 459264, 2, []⟩])
 (.ret))))⟩
/-- loop.example/g00849/spec.l02Scale -/
def F160 : F := ⟨2, 26, [.t 4],
 .seq (.reg [⟨(some 4), .mv (.k (.str ByteArray.empty)), none, 0, 0, []⟩])
 (.seq (.reg [⟨(some 7), .bslice true 1 [(.int .u8 0)] 0 [], none, 65536, 0, []⟩,
   ⟨(some 5), .mv (.t 7), none, 65792, 1, []⟩])
 (.seq (.seq (.reg [⟨(some 6), .mv (.k (.int .i64 0)), none, 131072, 0, []⟩])
 (.block 0 (.loop [0, 1, 5, 6] [65536]
  (.seq (.seq (.reg [⟨(some 8), .mv (.t 6), none, 196608, 0, []⟩,
    ⟨(some 9), .mv (.t 1), none, 196864, 1, []⟩,
    ⟨(some 10), .len true (.t 9), none, 197120, 2, []⟩,
    ⟨(some 11), .bin .lss (.t 8) (.t 10), none, 197376, 3, []⟩])
  (.cond (.t 11)
   (.skip)
   (.exit 0)))
  (.seq (.block 1 (.reg [⟨(some 14), .mv (.t 5), none, 327680, 0, []⟩,
    ⟨(some 15), .mv (.t 0), none, 327936, 1, []⟩,
    ⟨(some 16), .mv (.t 1), none, 328192, 2, []⟩,
    ⟨(some 17), .mv (.t 6), none, 328448, 3, []⟩,
    ⟨(some 18), .idx (.t 16) (.t 17), none, 328704, 4, []⟩,
    ⟨(some 19), .conv .i64 (.t 18), none, 328960, 5, []⟩,
    ⟨(some 20), .call 162 [(.t 15), (.t 19)] true, none, 329216, 6, []⟩,
    ⟨(some 21), .conv .u8 (.t 20), none, 329472, 7, []⟩,
    ⟨(some 22), .bslice true 1 [(.int .u8 0)] 1 [(0, (.t 21))], none, 329728, 8, []⟩,
    ⟨(some 23), .app true 1 1 (.t 14) (.t 22), none, 329984, 9, []⟩,
    ⟨(some 5), .mv (.t 23), none, 330240, 10, []⟩]))
  (.reg [⟨(some 12), .mv (.t 6), none, 262144, 0, []⟩,
    ⟨(some 13), .bin .add (.t 12) (.k (.int .i64 1)), none, 262400, 1, []⟩,
    ⟨(some 6), .mv (.t 13), none, 262656, 2, []⟩]))))))
 (.seq (.reg [⟨(some 24), .mv (.t 5), none, 393216, 0, []⟩,
   ⟨(some 25), .b2s (.t 24), none, 393472, 1, []⟩,
   ⟨(some 4), .mv (.t 25), none, 393728, 2, []⟩])
 (.ret))))⟩
/-- loop.example/g00849/spec.l03Unit -/
def F161 : F := ⟨1, 31, [.cell 2 3 true],
 .seq (.reg [⟨(some 2), .alloc [(.int .i64 0), (.int .i64 0), (.nil true 1)], none, 0, 0, []⟩])
 (.seq (.reg [⟨(some 5), .mv (.t 0), none, 65536, 0, []⟩,
   ⟨(some 6), .mv (.t 0), none, 65792, 1, []⟩,
   ⟨(some 7), .build [(.int .i64 0), (.int .i64 0), (.nil true 1)] [(0, 1, (.t 5)), (1, 1, (.t 6))], none, 66048, 2, []⟩,
   ⟨(some 3), .alloc [(.int .i64 0), (.int .i64 0), (.nil true 1)], none, 66304, 3, []⟩,
   ⟨none, .store 3 (.t 3) (.t 7), none, 66560, 4, []⟩])
 (.seq (.seq (.reg [⟨(some 4), .mv (.k (.int .i64 0)), none, 131072, 0, []⟩])
 (.block 0 (.loop [0, 2, 3, 4] [0, 3, 66304, 66307, 66561, 66562, 66563, 524545, 524546, 524547]
  (.seq (.seq (.reg [⟨(some 8), .mv (.t 4), none, 196608, 0, []⟩,
    ⟨(some 9), .mv (.t 0), none, 196864, 1, []⟩,
    ⟨(some 10), .mv (.t 0), none, 197120, 2, []⟩,
    ⟨(some 11), .bin .mul (.t 9) (.t 10), none, 197376, 3, []⟩,
    ⟨(some 12), .bin .lss (.t 8) (.t 11), none, 197632, 4, []⟩])
  (.cond (.t 12)
   (.skip)
   (.exit 0)))
  (.seq (.block 1 (.seq (.reg [⟨(some 15), .mv (.t 4), none, 327680, 0, []⟩,
    ⟨(some 16), .mv (.t 0), none, 327936, 1, []⟩,
    ⟨(some 17), .bin .add (.t 16) (.k (.int .i64 1)), none, 328192, 2, []⟩,
    ⟨(some 18), .bin .rem (.t 15) (.t 17), none, 328448, 3, []⟩,
    ⟨(some 19), .bin .eql (.t 18) (.k (.int .i64 0)), none, 328704, 4, []⟩])
  (.cond (.t 19)
   (.reg [⟨(some 20), .faddr 2 (.t 3), none, 393216, 0, []⟩,
     ⟨(some 21), .load 1 false (.t 20), none, 393472, 1, []⟩,
     ⟨(some 22), .bslice true 1 [(.int .i64 0)] 1 [(0, (.k (.int .i64 1)))], none, 393728, 2, []⟩,
     ⟨(some 23), .app true 1 8 (.t 21) (.t 22), none, 393984, 3, []⟩,
     ⟨(some 24), .faddr 2 (.t 3), none, 394240, 4, []⟩,
     ⟨none, .store 1 (.t 24) (.t 23), none, 394496, 5, []⟩])
   (.reg [⟨(some 25), .faddr 2 (.t 3), none, 458752, 0, []⟩,
     ⟨(some 26), .load 1 false (.t 25), none, 459008, 1, []⟩,
     ⟨(some 27), .bslice true 1 [(.int .i64 0)] 1 [(0, (.k (.int .i64 0)))], none, 459264, 2, []⟩,
     ⟨(some 28), .app true 1 8 (.t 26) (.t 27), none, 459520, 3, []⟩,
     ⟨(some 29), .faddr 2 (.t 3), none, 459776, 4, []⟩,
     ⟨none, .store 1 (.t 29) (.t 28), none, 460032, 5, []⟩]))))
  (.reg [⟨(some 13), .mv (.t 4), none, 262144, 0, []⟩,
    ⟨(some 14), .bin .add (.t 13) (.k (.int .i64 1)), none, 262400, 1, []⟩,
    ⟨(some 4), .mv (.t 14), none, 262656, 2, []⟩]))))))
 (.seq (.reg [⟨(some 30), .load 3 true (.t 3), none, 524288, 0, []⟩,
   ⟨none, .store 3 (.t 2) (.t 30), none, 524544, 1, []⟩])
 (.ret))))⟩
/-- loop.example/g00849/spec.l02Times -/
def F162 : F := ⟨2, 26, [.t 4],
 .seq (.reg [⟨(some 4), .mv (.k (.int .i64 0)), none, 0, 0, []⟩])
 (.seq (.reg [⟨(some 5), .mv (.k (.int .i64 0)), none, 65536, 0, []⟩])
 (.seq (.seq (.reg [⟨(some 6), .mv (.k (.int .i64 0)), none, 131072, 0, []⟩])
 (.block 0 (.loop [0, 1, 5, 6] []
  (.seq (.seq (.reg [⟨(some 7), .mv (.t 6), none, 196608, 0, []⟩,
    ⟨(some 8), .bin .lss (.t 7) (.k (.int .i64 8)), none, 196864, 1, []⟩])
  (.cond (.t 8)
   (.skip)
   (.exit 0)))
  (.seq (.block 1 (.seq (.seq (.reg [⟨(some 11), .mv (.t 1), none, 327680, 0, []⟩,
    ⟨(some 12), .bin .and (.t 11) (.k (.int .i64 1)), none, 327936, 1, []⟩,
    ⟨(some 13), .bin .neq (.t 12) (.k (.int .i64 0)), none, 328192, 2, []⟩])
  (.cond (.t 13)
   (.reg [⟨(some 14), .mv (.t 5), none, 393216, 0, []⟩,
     ⟨(some 15), .mv (.t 0), none, 393472, 1, []⟩,
     ⟨(some 16), .bin .xor (.t 14) (.t 15), none, 393728, 2, []⟩,
     ⟨(some 5), .mv (.t 16), none, 393984, 3, []⟩])
   (.skip)))
  (.seq (.reg [⟨(some 17), .mv (.t 1), none, 458752, 0, []⟩,
    ⟨(some 18), .bin .shr (.t 17) (.k (.int .u64 1)), none, 459008, 1, []⟩,
    ⟨(some 1), .mv (.t 18), none, 459264, 2, []⟩])
  (.seq (.reg [⟨(some 19), .mv (.t 0), none, 524288, 0, []⟩,
    ⟨(some 20), .bin .shl (.t 19) (.k (.int .u64 1)), none, 524544, 1, []⟩,
    ⟨(some 0), .mv (.t 20), none, 524800, 2, []⟩])
  (.seq (.reg [⟨(some 21), .mv (.t 0), none, 589824, 0, []⟩,
    ⟨(some 22), .bin .gtr (.t 21) (.k (.int .i64 255)), none, 590080, 1, []⟩])
  (.cond (.t 22)
   (.reg [⟨(some 23), .mv (.t 0), none, 655360, 0, []⟩,
     ⟨(some 24), .bin .xor (.t 23) (.k (.int .i64 285)), none, 655616, 1, []⟩,
     ⟨(some 0), .mv (.t 24), none, 655872, 2, []⟩])
   (.skip)))))))
  (.reg [⟨(some 9), .mv (.t 6), none, 262144, 0, []⟩,
    ⟨(some 10), .bin .add (.t 9) (.k (.int .i64 1)), none, 262400, 1, []⟩,
    ⟨(some 6), .mv (.t 10), none, 262656, 2, []⟩]))))))
 (.seq (.reg [⟨(some 25), .mv (.t 5), none, 720896, 0, []⟩,
   ⟨(some 4), .mv (.t 25), none, 721152, 1, []⟩])
 (.ret))))⟩
/-- loop.example/g00849/spec.l02Inv -/
def F163 : F := ⟨1, 5, [.t 2],
 .seq (.reg [⟨(some 2), .mv (.k (.int .i64 0)), none, 0, 0, []⟩])
 (.seq (.reg [⟨(some 3), .mv (.t 0), none, 65536, 0, []⟩,
   ⟨(some 4), .call 175 [(.t 3), (.k (.int .i64 254))] true, none, 65792, 1, []⟩,
   ⟨(some 2), .mv (.t 4), none, 66048, 2, []⟩])
 (.ret))⟩
/-- loop.example/g00849/impl.power -/
def F173 : F := ⟨2, 20, [.t 4],
 .seq (.reg [⟨(some 4), .mv (.k (.int .i64 0)), none, 0, 0, []⟩])
 (.seq (.reg [⟨(some 5), .mv (.k (.int .i64 1)), none, 65536, 0, []⟩])
 (.seq (.block 0 (.loop [0, 1, 5] []
  (.seq (.seq (.reg [⟨(some 6), .mv (.t 1), none, 131072, 0, []⟩,
    ⟨(some 7), .bin .gtr (.t 6) (.k (.int .i64 0)), none, 131328, 1, []⟩])
  (.cond (.t 7)
   (.skip)
   (.exit 0)))
  (.seq (.block 1 (.seq (.seq (.reg [⟨(some 10), .mv (.t 1), none, 262144, 0, []⟩,
    ⟨(some 11), .bin .rem (.t 10) (.k (.int .i64 2)), none, 262400, 1, []⟩,
    ⟨(some 12), .bin .eql (.t 11) (.k (.int .i64 1)), none, 262656, 2, []⟩])
  (.cond (.t 12)
   (.reg [⟨(some 13), .mv (.t 5), none, 327680, 0, []⟩,
     ⟨(some 14), .mv (.t 0), none, 327936, 1, []⟩,
     ⟨(some 15), .call 158 [(.t 13), (.t 14)] true, none, 328192, 2, []⟩,
     ⟨(some 5), .mv (.t 15), none, 328448, 3, []⟩])
   (.skip)))
  (.reg [⟨(some 16), .mv (.t 0), none, 393216, 0, []⟩,
    ⟨(some 17), .mv (.t 0), none, 393472, 1, []⟩,
    ⟨(some 18), .call 158 [(.t 16), (.t 17)] true, none, 393728, 2, []⟩,
    ⟨(some 0), .mv (.t 18), none, 393984, 3, []⟩])))
  (.reg [⟨(some 8), .mv (.t 1), none, 196608, 0, []⟩,
    ⟨(some 9), .bin .quo (.t 8) (.k (.int .i64 2)), none, 196864, 1, []⟩,
    ⟨(some 1), .mv (.t 9), none, 197120, 2, []⟩])))))
 (.seq (.reg [⟨(some 19), .mv (.t 5), none, 458752, 0, []⟩,
   ⟨(some 4), .mv (.t 19), none, 459008, 1, []⟩])
 (.ret))))⟩
/-- loop.example/g00849/impl.double -/
def F174 : F := ⟨1, 10, [.t 2],
 .seq (.reg [⟨(some 2), .mv (.k (.int .i64 0)), none, 0, 0, []⟩])
 (.seq (.reg [⟨(some 3), .mv (.t 0), none, 65536, 0, []⟩,
   ⟨(some 4), .bin .mul (.t 3) (.k (.int .i64 2)), none, 65792, 1, []⟩,
   ⟨(some 0), .mv (.t 4), none, 66048, 2, []⟩])
 (.seq (.seq (.reg [⟨(some 5), .mv (.t 0), none, 131072, 0, []⟩,
   ⟨(some 6), .bin .gtr (.t 5) (.k (.int .i64 255)), none, 131328, 1, []⟩])
 (.cond (.t 6)
  (.reg [⟨(some 7), .mv (.t 0), none, 196608, 0, []⟩,
    ⟨(some 8), .bin .xor (.t 7) (.k (.int .i64 285)), none, 196864, 1, []⟩,
    ⟨(some 0), .mv (.t 8), none, 197120, 2, []⟩])
  (.skip)))
 (.seq (.reg [⟨(some 9), .mv (.t 0), none, 262144, 0, []⟩,
   ⟨(some 2), .mv (.t 9), none, 262400, 1, []⟩])
 (.ret))))⟩
/-- loop.example/g00849/spec.l02Pow -/
def F175 : F := ⟨2, 20, [.t 4],
 .seq (.reg [⟨(some 4), .mv (.k (.int .i64 0)), none, 0, 0, []⟩])
 (.seq (.reg [⟨(some 5), .mv (.k (.int .i64 1)), none, 65536, 0, []⟩])
 (.seq (.block 0 (.loop [0, 1, 5] []
  (.seq (.seq (.reg [⟨(some 6), .mv (.t 1), none, 131072, 0, []⟩,
    ⟨(some 7), .bin .gtr (.t 6) (.k (.int .i64 0)), none, 131328, 1, []⟩])
  (.cond (.t 7)
   (.skip)
   (.exit 0)))
  (.block 1 (.seq (.seq (.reg [⟨(some 8), .mv (.t 1), none, 196608, 0, []⟩,
    ⟨(some 9), .bin .rem (.t 8) (.k (.int .i64 2)), none, 196864, 1, []⟩,
    ⟨(some 10), .bin .eql (.t 9) (.k (.int .i64 1)), none, 197120, 2, []⟩])
  (.cond (.t 10)
   (.reg [⟨(some 11), .mv (.t 5), none, 262144, 0, []⟩,
     ⟨(some 12), .mv (.t 0), none, 262400, 1, []⟩,
     ⟨(some 13), .call 162 [(.t 11), (.t 12)] true, none, 262656, 2, []⟩,
     ⟨(some 5), .mv (.t 13), none, 262912, 3, []⟩])
   (.skip)))
  (.seq (.reg [⟨(some 14), .mv (.t 0), none, 327680, 0, []⟩,
    ⟨(some 15), .mv (.t 0), none, 327936, 1, []⟩,
    ⟨(some 16), .call 162 [(.t 14), (.t 15)] true, none, 328192, 2, []⟩,
    ⟨(some 0), .mv (.t 16), none, 328448, 3, []⟩])
  (.reg [⟨(some 17), .mv (.t 1), none, 393216, 0, []⟩,
    ⟨(some 18), .bin .quo (.t 17) (.k (.int .i64 2)), none, 393472, 1, []⟩,
    ⟨(some 1), .mv (.t 18), none, 393728, 2, []⟩])))))))
 (.seq (.reg [⟨(some 19), .mv (.t 5), none, 458752, 0, []⟩,
   ⟨(some 4), .mv (.t 19), none, 459008, 1, []⟩])
 (.ret))))⟩
def fns : Nat → Option F
  | 10 => some F10
  | 18 => some F18
  | 43 => some F43
  | 49 => some F49
  | 50 => some F50
  | 52 => some F52
  | 53 => some F53
  | 54 => some F54
  | 77 => some F77
  | 80 => some F80
  | 84 => some F84
  | 86 => some F86
  | 88 => some F88
  | 89 => some F89
  | 90 => some F90
  | 91 => some F91
  | 92 => some F92
  | 96 => some F96
  | 97 => some F97
  | 98 => some F98
  | 99 => some F99
  | 100 => some F100
  | 101 => some F101
  | 102 => some F102
  | 103 => some F103
  | 104 => some F104
  | 105 => some F105
  | 106 => some F106
  | 115 => some F115
  | 129 => some F129
  | 131 => some F131
  | 132 => some F132
  | 133 => some F133
  | 136 => some F136
  | 138 => some F138
  | 139 => some F139
  | 146 => some F146
  | 147 => some F147
  | 154 => some F154
  | 155 => some F155
  | 157 => some F157
  | 158 => some F158
  | 159 => some F159
  | 160 => some F160
  | 161 => some F161
  | 162 => some F162
  | 163 => some F163
  | 173 => some F173
  | 174 => some F174
  | 175 => some F175
  | _ => none
def nats : Nat → Option (List AV → Option (AV × List Blk))
  | 74 => some natJoin
  | 95 => some C0.natBody
  | 135 => some natRepeat
  | 145 => some C0.natRepI
  | _ => none
def code : Prog := ⟨fns, md, nats⟩
theorem nat74 (k : Nat) (args : List AV) (E : List Heap) (v : AV) (bs : List Blk) (h : natJoin args = some (v, bs)) : call code (k + 1) 74 args E = some ⟨v, bs, E⟩ := call_nat rfl h
theorem nat95 (k : Nat) (args : List AV) (E : List Heap) (v : AV) (bs : List Blk) (h : C0.natBody args = some (v, bs)) : call code (k + 1) 95 args E = some ⟨v, bs, E⟩ := call_nat rfl h
theorem nat135 (k : Nat) (args : List AV) (E : List Heap) (v : AV) (bs : List Blk) (h : natRepeat args = some (v, bs)) : call code (k + 1) 135 args E = some ⟨v, bs, E⟩ := call_nat rfl h
theorem nat145 (k : Nat) (args : List AV) (E : List Heap) (v : AV) (bs : List Blk) (h : C0.natRepI args = some (v, bs)) : call code (k + 1) 145 args E = some ⟨v, bs, E⟩ := call_nat rfl h
theorem fn10 : code.fn 10 = some F10 := rfl
theorem fn18 : code.fn 18 = some F18 := rfl
theorem fn43 : code.fn 43 = some F43 := rfl
theorem fn49 : code.fn 49 = some F49 := rfl
theorem fn50 : code.fn 50 = some F50 := rfl
theorem fn52 : code.fn 52 = some F52 := rfl
theorem fn53 : code.fn 53 = some F53 := rfl
theorem fn54 : code.fn 54 = some F54 := rfl
theorem fn77 : code.fn 77 = some F77 := rfl
theorem fn80 : code.fn 80 = some F80 := rfl
theorem fn84 : code.fn 84 = some F84 := rfl
theorem fn86 : code.fn 86 = some F86 := rfl
theorem fn88 : code.fn 88 = some F88 := rfl
theorem fn89 : code.fn 89 = some F89 := rfl
theorem fn90 : code.fn 90 = some F90 := rfl
theorem fn91 : code.fn 91 = some F91 := rfl
theorem fn92 : code.fn 92 = some F92 := rfl
theorem fn96 : code.fn 96 = some F96 := rfl
theorem fn97 : code.fn 97 = some F97 := rfl
theorem fn98 : code.fn 98 = some F98 := rfl
theorem fn99 : code.fn 99 = some F99 := rfl
theorem fn100 : code.fn 100 = some F100 := rfl
theorem fn101 : code.fn 101 = some F101 := rfl
theorem fn102 : code.fn 102 = some F102 := rfl
theorem fn103 : code.fn 103 = some F103 := rfl
theorem fn104 : code.fn 104 = some F104 := rfl
theorem fn105 : code.fn 105 = some F105 := rfl
theorem fn106 : code.fn 106 = some F106 := rfl
theorem fn115 : code.fn 115 = some F115 := rfl
theorem fn129 : code.fn 129 = some F129 := rfl
theorem fn131 : code.fn 131 = some F131 := rfl
theorem fn132 : code.fn 132 = some F132 := rfl
theorem fn133 : code.fn 133 = some F133 := rfl
theorem fn136 : code.fn 136 = some F136 := rfl
theorem fn138 : code.fn 138 = some F138 := rfl
theorem fn139 : code.fn 139 = some F139 := rfl
theorem fn146 : code.fn 146 = some F146 := rfl
theorem fn147 : code.fn 147 = some F147 := rfl
theorem fn154 : code.fn 154 = some F154 := rfl
theorem fn155 : code.fn 155 = some F155 := rfl
theorem fn157 : code.fn 157 = some F157 := rfl
theorem fn158 : code.fn 158 = some F158 := rfl
theorem fn159 : code.fn 159 = some F159 := rfl
theorem fn160 : code.fn 160 = some F160 := rfl
theorem fn161 : code.fn 161 = some F161 := rfl
theorem fn162 : code.fn 162 = some F162 := rfl
theorem fn163 : code.fn 163 = some F163 := rfl
theorem fn173 : code.fn 173 = some F173 := rfl
theorem fn174 : code.fn 174 = some F174 := rfl
theorem fn175 : code.fn 175 = some F175 := rfl
theorem rcall74 {O : Oracle} {st : St} {Q : Ex → St → Prop} {fs : List Fr} {d : Option Nat} {b i : Nat} {ap : List X} {r : List IOp} (xs : List X) (fl : Bool) : RunO O code.md (⟨d, .call 74 xs fl, none, b, i, ap⟩ :: r) fs st Q = (quietOk st (.call 74 xs fl) ap = true ∧ RunQ O code.md (callVal O st b 74 (evalXs st xs) fl) d r fs st Q) := R_call 74 xs fl rfl
theorem rcall95 {O : Oracle} {st : St} {Q : Ex → St → Prop} {fs : List Fr} {d : Option Nat} {b i : Nat} {ap : List X} {r : List IOp} (xs : List X) (fl : Bool) : RunO O code.md (⟨d, .call 95 xs fl, none, b, i, ap⟩ :: r) fs st Q = (quietOk st (.call 95 xs fl) ap = true ∧ RunQ O code.md (callVal O st b 95 (evalXs st xs) fl) d r fs st Q) := R_call 95 xs fl rfl
theorem rcall135 {O : Oracle} {st : St} {Q : Ex → St → Prop} {fs : List Fr} {d : Option Nat} {b i : Nat} {ap : List X} {r : List IOp} (xs : List X) (fl : Bool) : RunO O code.md (⟨d, .call 135 xs fl, none, b, i, ap⟩ :: r) fs st Q = (quietOk st (.call 135 xs fl) ap = true ∧ RunQ O code.md (callVal O st b 135 (evalXs st xs) fl) d r fs st Q) := R_call 135 xs fl rfl
theorem rcall145 {O : Oracle} {st : St} {Q : Ex → St → Prop} {fs : List Fr} {d : Option Nat} {b i : Nat} {ap : List X} {r : List IOp} (xs : List X) (fl : Bool) : RunO O code.md (⟨d, .call 145 xs fl, none, b, i, ap⟩ :: r) fs st Q = (quietOk st (.call 145 xs fl) ap = true ∧ RunQ O code.md (callVal O st b 145 (evalXs st xs) fl) d r fs st Q) := R_call 145 xs fl rfl
theorem rcall10 {O : Oracle} {st : St} {Q : Ex → St → Prop} {fs : List Fr} {d : Option Nat} {b i : Nat} {ap : List X} {r : List IOp} (xs : List X) (fl : Bool) : RunO O code.md (⟨d, .call 10 xs fl, none, b, i, ap⟩ :: r) fs st Q = (quietOk st (.call 10 xs fl) ap = true ∧ RunQ O code.md (callVal O st b 10 (evalXs st xs) fl) d r fs st Q) := R_call 10 xs fl rfl
theorem rcall18 {O : Oracle} {st : St} {Q : Ex → St → Prop} {fs : List Fr} {d : Option Nat} {b i : Nat} {ap : List X} {r : List IOp} (xs : List X) (fl : Bool) : RunO O code.md (⟨d, .call 18 xs fl, none, b, i, ap⟩ :: r) fs st Q = (quietOk st (.call 18 xs fl) ap = true ∧ RunQ O code.md (callVal O st b 18 (evalXs st xs) fl) d r fs st Q) := R_call 18 xs fl rfl
theorem rcall43 {O : Oracle} {st : St} {Q : Ex → St → Prop} {fs : List Fr} {d : Option Nat} {b i : Nat} {ap : List X} {r : List IOp} (xs : List X) (fl : Bool) : RunO O code.md (⟨d, .call 43 xs fl, none, b, i, ap⟩ :: r) fs st Q = (quietOk st (.call 43 xs fl) ap = true ∧ RunQ O code.md (callVal O st b 43 (evalXs st xs) fl) d r fs st Q) := R_call 43 xs fl rfl
theorem rcall49 {O : Oracle} {st : St} {Q : Ex → St → Prop} {fs : List Fr} {d : Option Nat} {b i : Nat} {ap : List X} {r : List IOp} (xs : List X) (fl : Bool) : RunO O code.md (⟨d, .call 49 xs fl, none, b, i, ap⟩ :: r) fs st Q = (quietOk st (.call 49 xs fl) ap = true ∧ RunQ O code.md (callVal O st b 49 (evalXs st xs) fl) d r fs st Q) := R_call 49 xs fl rfl
theorem rcall50 {O : Oracle} {st : St} {Q : Ex → St → Prop} {fs : List Fr} {d : Option Nat} {b i : Nat} {ap : List X} {r : List IOp} (xs : List X) (fl : Bool) : RunO O code.md (⟨d, .call 50 xs fl, none, b, i, ap⟩ :: r) fs st Q = (quietOk st (.call 50 xs fl) ap = true ∧ RunQ O code.md (callVal O st b 50 (evalXs st xs) fl) d r fs st Q) := R_call 50 xs fl rfl
theorem rcall52 {O : Oracle} {st : St} {Q : Ex → St → Prop} {fs : List Fr} {d : Option Nat} {b i : Nat} {ap : List X} {r : List IOp} (xs : List X) (fl : Bool) : RunO O code.md (⟨d, .call 52 xs fl, none, b, i, ap⟩ :: r) fs st Q = (quietOk st (.call 52 xs fl) ap = true ∧ RunQ O code.md (callVal O st b 52 (evalXs st xs) fl) d r fs st Q) := R_call 52 xs fl rfl
theorem rcall53 {O : Oracle} {st : St} {Q : Ex → St → Prop} {fs : List Fr} {d : Option Nat} {b i : Nat} {ap : List X} {r : List IOp} (xs : List X) (fl : Bool) : RunO O code.md (⟨d, .call 53 xs fl, none, b, i, ap⟩ :: r) fs st Q = (quietOk st (.call 53 xs fl) ap = true ∧ RunQ O code.md (callVal O st b 53 (evalXs st xs) fl) d r fs st Q) := R_call 53 xs fl rfl
theorem rcall54 {O : Oracle} {st : St} {Q : Ex → St → Prop} {fs : List Fr} {d : Option Nat} {b i : Nat} {ap : List X} {r : List IOp} (xs : List X) (fl : Bool) : RunO O code.md (⟨d, .call 54 xs fl, none, b, i, ap⟩ :: r) fs st Q = (quietOk st (.call 54 xs fl) ap = true ∧ RunQ O code.md (callVal O st b 54 (evalXs st xs) fl) d r fs st Q) := R_call 54 xs fl rfl
theorem rcall77 {O : Oracle} {st : St} {Q : Ex → St → Prop} {fs : List Fr} {d : Option Nat} {b i : Nat} {ap : List X} {r : List IOp} (xs : List X) (fl : Bool) : RunO O code.md (⟨d, .call 77 xs fl, none, b, i, ap⟩ :: r) fs st Q = (quietOk st (.call 77 xs fl) ap = true ∧ RunQ O code.md (callVal O st b 77 (evalXs st xs) fl) d r fs st Q) := R_call 77 xs fl rfl
theorem rcall80 {O : Oracle} {st : St} {Q : Ex → St → Prop} {fs : List Fr} {d : Option Nat} {b i : Nat} {ap : List X} {r : List IOp} (xs : List X) (fl : Bool) : RunO O code.md (⟨d, .call 80 xs fl, none, b, i, ap⟩ :: r) fs st Q = (quietOk st (.call 80 xs fl) ap = true ∧ RunQ O code.md (callVal O st b 80 (evalXs st xs) fl) d r fs st Q) := R_call 80 xs fl rfl
theorem rcall84 {O : Oracle} {st : St} {Q : Ex → St → Prop} {fs : List Fr} {d : Option Nat} {b i : Nat} {ap : List X} {r : List IOp} (xs : List X) (fl : Bool) : RunO O code.md (⟨d, .call 84 xs fl, none, b, i, ap⟩ :: r) fs st Q = (quietOk st (.call 84 xs fl) ap = true ∧ RunQ O code.md (callVal O st b 84 (evalXs st xs) fl) d r fs st Q) := R_call 84 xs fl rfl
theorem rcall86 {O : Oracle} {st : St} {Q : Ex → St → Prop} {fs : List Fr} {d : Option Nat} {b i : Nat} {ap : List X} {r : List IOp} (xs : List X) (fl : Bool) : RunO O code.md (⟨d, .call 86 xs fl, none, b, i, ap⟩ :: r) fs st Q = (quietOk st (.call 86 xs fl) ap = true ∧ RunQ O code.md (callVal O st b 86 (evalXs st xs) fl) d r fs st Q) := R_call 86 xs fl rfl
theorem rcall88 {O : Oracle} {st : St} {Q : Ex → St → Prop} {fs : List Fr} {d : Option Nat} {b i : Nat} {ap : List X} {r : List IOp} (xs : List X) (fl : Bool) : RunO O code.md (⟨d, .call 88 xs fl, none, b, i, ap⟩ :: r) fs st Q = (quietOk st (.call 88 xs fl) ap = true ∧ RunQ O code.md (callVal O st b 88 (evalXs st xs) fl) d r fs st Q) := R_call 88 xs fl rfl
theorem rcall89 {O : Oracle} {st : St} {Q : Ex → St → Prop} {fs : List Fr} {d : Option Nat} {b i : Nat} {ap : List X} {r : List IOp} (xs : List X) (fl : Bool) : RunO O code.md (⟨d, .call 89 xs fl, none, b, i, ap⟩ :: r) fs st Q = (quietOk st (.call 89 xs fl) ap = true ∧ RunQ O code.md (callVal O st b 89 (evalXs st xs) fl) d r fs st Q) := R_call 89 xs fl rfl
theorem rcall90 {O : Oracle} {st : St} {Q : Ex → St → Prop} {fs : List Fr} {d : Option Nat} {b i : Nat} {ap : List X} {r : List IOp} (xs : List X) (fl : Bool) : RunO O code.md (⟨d, .call 90 xs fl, none, b, i, ap⟩ :: r) fs st Q = (quietOk st (.call 90 xs fl) ap = true ∧ RunQ O code.md (callVal O st b 90 (evalXs st xs) fl) d r fs st Q) := R_call 90 xs fl rfl
theorem rcall91 {O : Oracle} {st : St} {Q : Ex → St → Prop} {fs : List Fr} {d : Option Nat} {b i : Nat} {ap : List X} {r : List IOp} (xs : List X) (fl : Bool) : RunO O code.md (⟨d, .call 91 xs fl, none, b, i, ap⟩ :: r) fs st Q = (quietOk st (.call 91 xs fl) ap = true ∧ RunQ O code.md (callVal O st b 91 (evalXs st xs) fl) d r fs st Q) := R_call 91 xs fl rfl
theorem rcall92 {O : Oracle} {st : St} {Q : Ex → St → Prop} {fs : List Fr} {d : Option Nat} {b i : Nat} {ap : List X} {r : List IOp} (xs : List X) (fl : Bool) : RunO O code.md (⟨d, .call 92 xs fl, none, b, i, ap⟩ :: r) fs st Q = (quietOk st (.call 92 xs fl) ap = true ∧ RunQ O code.md (callVal O st b 92 (evalXs st xs) fl) d r fs st Q) := R_call 92 xs fl rfl
theorem rcall96 {O : Oracle} {st : St} {Q : Ex → St → Prop} {fs : List Fr} {d : Option Nat} {b i : Nat} {ap : List X} {r : List IOp} (xs : List X) (fl : Bool) : RunO O code.md (⟨d, .call 96 xs fl, none, b, i, ap⟩ :: r) fs st Q = (quietOk st (.call 96 xs fl) ap = true ∧ RunQ O code.md (callVal O st b 96 (evalXs st xs) fl) d r fs st Q) := R_call 96 xs fl rfl
theorem rcall97 {O : Oracle} {st : St} {Q : Ex → St → Prop} {fs : List Fr} {d : Option Nat} {b i : Nat} {ap : List X} {r : List IOp} (xs : List X) (fl : Bool) : RunO O code.md (⟨d, .call 97 xs fl, none, b, i, ap⟩ :: r) fs st Q = (quietOk st (.call 97 xs fl) ap = true ∧ RunQ O code.md (callVal O st b 97 (evalXs st xs) fl) d r fs st Q) := R_call 97 xs fl rfl
theorem rcall98 {O : Oracle} {st : St} {Q : Ex → St → Prop} {fs : List Fr} {d : Option Nat} {b i : Nat} {ap : List X} {r : List IOp} (xs : List X) (fl : Bool) : RunO O code.md (⟨d, .call 98 xs fl, none, b, i, ap⟩ :: r) fs st Q = (quietOk st (.call 98 xs fl) ap = true ∧ RunQ O code.md (callVal O st b 98 (evalXs st xs) fl) d r fs st Q) := R_call 98 xs fl rfl
theorem rcall99 {O : Oracle} {st : St} {Q : Ex → St → Prop} {fs : List Fr} {d : Option Nat} {b i : Nat} {ap : List X} {r : List IOp} (xs : List X) (fl : Bool) : RunO O code.md (⟨d, .call 99 xs fl, none, b, i, ap⟩ :: r) fs st Q = (quietOk st (.call 99 xs fl) ap = true ∧ RunQ O code.md (callVal O st b 99 (evalXs st xs) fl) d r fs st Q) := R_call 99 xs fl rfl
theorem rcall100 {O : Oracle} {st : St} {Q : Ex → St → Prop} {fs : List Fr} {d : Option Nat} {b i : Nat} {ap : List X} {r : List IOp} (xs : List X) (fl : Bool) : RunO O code.md (⟨d, .call 100 xs fl, none, b, i, ap⟩ :: r) fs st Q = (quietOk st (.call 100 xs fl) ap = true ∧ RunQ O code.md (callVal O st b 100 (evalXs st xs) fl) d r fs st Q) := R_call 100 xs fl rfl
theorem rcall101 {O : Oracle} {st : St} {Q : Ex → St → Prop} {fs : List Fr} {d : Option Nat} {b i : Nat} {ap : List X} {r : List IOp} (xs : List X) (fl : Bool) : RunO O code.md (⟨d, .call 101 xs fl, none, b, i, ap⟩ :: r) fs st Q = (quietOk st (.call 101 xs fl) ap = true ∧ RunQ O code.md (callVal O st b 101 (evalXs st xs) fl) d r fs st Q) := R_call 101 xs fl rfl
theorem rcall102 {O : Oracle} {st : St} {Q : Ex → St → Prop} {fs : List Fr} {d : Option Nat} {b i : Nat} {ap : List X} {r : List IOp} (xs : List X) (fl : Bool) : RunO O code.md (⟨d, .call 102 xs fl, none, b, i, ap⟩ :: r) fs st Q = (quietOk st (.call 102 xs fl) ap = true ∧ RunQ O code.md (callVal O st b 102 (evalXs st xs) fl) d r fs st Q) := R_call 102 xs fl rfl
theorem rcall103 {O : Oracle} {st : St} {Q : Ex → St → Prop} {fs : List Fr} {d : Option Nat} {b i : Nat} {ap : List X} {r : List IOp} (xs : List X) (fl : Bool) : RunO O code.md (⟨d, .call 103 xs fl, none, b, i, ap⟩ :: r) fs st Q = (quietOk st (.call 103 xs fl) ap = true ∧ RunQ O code.md (callVal O st b 103 (evalXs st xs) fl) d r fs st Q) := R_call 103 xs fl rfl
theorem rcall104 {O : Oracle} {st : St} {Q : Ex → St → Prop} {fs : List Fr} {d : Option Nat} {b i : Nat} {ap : List X} {r : List IOp} (xs : List X) (fl : Bool) : RunO O code.md (⟨d, .call 104 xs fl, none, b, i, ap⟩ :: r) fs st Q = (quietOk st (.call 104 xs fl) ap = true ∧ RunQ O code.md (callVal O st b 104 (evalXs st xs) fl) d r fs st Q) := R_call 104 xs fl rfl
theorem rcall105 {O : Oracle} {st : St} {Q : Ex → St → Prop} {fs : List Fr} {d : Option Nat} {b i : Nat} {ap : List X} {r : List IOp} (xs : List X) (fl : Bool) : RunO O code.md (⟨d, .call 105 xs fl, none, b, i, ap⟩ :: r) fs st Q = (quietOk st (.call 105 xs fl) ap = true ∧ RunQ O code.md (callVal O st b 105 (evalXs st xs) fl) d r fs st Q) := R_call 105 xs fl rfl
theorem rcall106 {O : Oracle} {st : St} {Q : Ex → St → Prop} {fs : List Fr} {d : Option Nat} {b i : Nat} {ap : List X} {r : List IOp} (xs : List X) (fl : Bool) : RunO O code.md (⟨d, .call 106 xs fl, none, b, i, ap⟩ :: r) fs st Q = (quietOk st (.call 106 xs fl) ap = true ∧ RunQ O code.md (callVal O st b 106 (evalXs st xs) fl) d r fs st Q) := R_call 106 xs fl rfl
theorem rcall115 {O : Oracle} {st : St} {Q : Ex → St → Prop} {fs : List Fr} {d : Option Nat} {b i : Nat} {ap : List X} {r : List IOp} (xs : List X) (fl : Bool) : RunO O code.md (⟨d, .call 115 xs fl, none, b, i, ap⟩ :: r) fs st Q = (quietOk st (.call 115 xs fl) ap = true ∧ RunQ O code.md (callVal O st b 115 (evalXs st xs) fl) d r fs st Q) := R_call 115 xs fl rfl
theorem rcall129 {O : Oracle} {st : St} {Q : Ex → St → Prop} {fs : List Fr} {d : Option Nat} {b i : Nat} {ap : List X} {r : List IOp} (xs : List X) (fl : Bool) : RunO O code.md (⟨d, .call 129 xs fl, none, b, i, ap⟩ :: r) fs st Q = (quietOk st (.call 129 xs fl) ap = true ∧ RunQ O code.md (callVal O st b 129 (evalXs st xs) fl) d r fs st Q) := R_call 129 xs fl rfl
theorem rcall131 {O : Oracle} {st : St} {Q : Ex → St → Prop} {fs : List Fr} {d : Option Nat} {b i : Nat} {ap : List X} {r : List IOp} (xs : List X) (fl : Bool) : RunO O code.md (⟨d, .call 131 xs fl, none, b, i, ap⟩ :: r) fs st Q = (quietOk st (.call 131 xs fl) ap = true ∧ RunQ O code.md (callVal O st b 131 (evalXs st xs) fl) d r fs st Q) := R_call 131 xs fl rfl
theorem rcall132 {O : Oracle} {st : St} {Q : Ex → St → Prop} {fs : List Fr} {d : Option Nat} {b i : Nat} {ap : List X} {r : List IOp} (xs : List X) (fl : Bool) : RunO O code.md (⟨d, .call 132 xs fl, none, b, i, ap⟩ :: r) fs st Q = (quietOk st (.call 132 xs fl) ap = true ∧ RunQ O code.md (callVal O st b 132 (evalXs st xs) fl) d r fs st Q) := R_call 132 xs fl rfl
theorem rcall133 {O : Oracle} {st : St} {Q : Ex → St → Prop} {fs : List Fr} {d : Option Nat} {b i : Nat} {ap : List X} {r : List IOp} (xs : List X) (fl : Bool) : RunO O code.md (⟨d, .call 133 xs fl, none, b, i, ap⟩ :: r) fs st Q = (quietOk st (.call 133 xs fl) ap = true ∧ RunQ O code.md (callVal O st b 133 (evalXs st xs) fl) d r fs st Q) := R_call 133 xs fl rfl
theorem rcall136 {O : Oracle} {st : St} {Q : Ex → St → Prop} {fs : List Fr} {d : Option Nat} {b i : Nat} {ap : List X} {r : List IOp} (xs : List X) (fl : Bool) : RunO O code.md (⟨d, .call 136 xs fl, none, b, i, ap⟩ :: r) fs st Q = (quietOk st (.call 136 xs fl) ap = true ∧ RunQ O code.md (callVal O st b 136 (evalXs st xs) fl) d r fs st Q) := R_call 136 xs fl rfl
theorem rcall138 {O : Oracle} {st : St} {Q : Ex → St → Prop} {fs : List Fr} {d : Option Nat} {b i : Nat} {ap : List X} {r : List IOp} (xs : List X) (fl : Bool) : RunO O code.md (⟨d, .call 138 xs fl, none, b, i, ap⟩ :: r) fs st Q = (quietOk st (.call 138 xs fl) ap = true ∧ RunQ O code.md (callVal O st b 138 (evalXs st xs) fl) d r fs st Q) := R_call 138 xs fl rfl
theorem rcall139 {O : Oracle} {st : St} {Q : Ex → St → Prop} {fs : List Fr} {d : Option Nat} {b i : Nat} {ap : List X} {r : List IOp} (xs : List X) (fl : Bool) : RunO O code.md (⟨d, .call 139 xs fl, none, b, i, ap⟩ :: r) fs st Q = (quietOk st (.call 139 xs fl) ap = true ∧ RunQ O code.md (callVal O st b 139 (evalXs st xs) fl) d r fs st Q) := R_call 139 xs fl rfl
theorem rcall146 {O : Oracle} {st : St} {Q : Ex → St → Prop} {fs : List Fr} {d : Option Nat} {b i : Nat} {ap : List X} {r : List IOp} (xs : List X) (fl : Bool) : RunO O code.md (⟨d, .call 146 xs fl, none, b, i, ap⟩ :: r) fs st Q = (quietOk st (.call 146 xs fl) ap = true ∧ RunQ O code.md (callVal O st b 146 (evalXs st xs) fl) d r fs st Q) := R_call 146 xs fl rfl
theorem rcall147 {O : Oracle} {st : St} {Q : Ex → St → Prop} {fs : List Fr} {d : Option Nat} {b i : Nat} {ap : List X} {r : List IOp} (xs : List X) (fl : Bool) : RunO O code.md (⟨d, .call 147 xs fl, none, b, i, ap⟩ :: r) fs st Q = (quietOk st (.call 147 xs fl) ap = true ∧ RunQ O code.md (callVal O st b 147 (evalXs st xs) fl) d r fs st Q) := R_call 147 xs fl rfl
theorem rcall154 {O : Oracle} {st : St} {Q : Ex → St → Prop} {fs : List Fr} {d : Option Nat} {b i : Nat} {ap : List X} {r : List IOp} (xs : List X) (fl : Bool) : RunO O code.md (⟨d, .call 154 xs fl, none, b, i, ap⟩ :: r) fs st Q = (quietOk st (.call 154 xs fl) ap = true ∧ RunQ O code.md (callVal O st b 154 (evalXs st xs) fl) d r fs st Q) := R_call 154 xs fl rfl
theorem rcall155 {O : Oracle} {st : St} {Q : Ex → St → Prop} {fs : List Fr} {d : Option Nat} {b i : Nat} {ap : List X} {r : List IOp} (xs : List X) (fl : Bool) : RunO O code.md (⟨d, .call 155 xs fl, none, b, i, ap⟩ :: r) fs st Q = (quietOk st (.call 155 xs fl) ap = true ∧ RunV O code.md (callView O st 155 (evalXs st xs)) d r fs st Q) := R_callv' 155 xs fl rfl
theorem rcall157 {O : Oracle} {st : St} {Q : Ex → St → Prop} {fs : List Fr} {d : Option Nat} {b i : Nat} {ap : List X} {r : List IOp} (xs : List X) (fl : Bool) : RunO O code.md (⟨d, .call 157 xs fl, none, b, i, ap⟩ :: r) fs st Q = (quietOk st (.call 157 xs fl) ap = true ∧ RunQ O code.md (callVal O st b 157 (evalXs st xs) fl) d r fs st Q) := R_call 157 xs fl rfl
theorem rcall158 {O : Oracle} {st : St} {Q : Ex → St → Prop} {fs : List Fr} {d : Option Nat} {b i : Nat} {ap : List X} {r : List IOp} (xs : List X) (fl : Bool) : RunO O code.md (⟨d, .call 158 xs fl, none, b, i, ap⟩ :: r) fs st Q = (quietOk st (.call 158 xs fl) ap = true ∧ RunQ O code.md (callVal O st b 158 (evalXs st xs) fl) d r fs st Q) := R_call 158 xs fl rfl
theorem rcall159 {O : Oracle} {st : St} {Q : Ex → St → Prop} {fs : List Fr} {d : Option Nat} {b i : Nat} {ap : List X} {r : List IOp} (xs : List X) (fl : Bool) : RunO O code.md (⟨d, .call 159 xs fl, none, b, i, ap⟩ :: r) fs st Q = (quietOk st (.call 159 xs fl) ap = true ∧ RunQ O code.md (callVal O st b 159 (evalXs st xs) fl) d r fs st Q) := R_call 159 xs fl rfl
theorem rcall160 {O : Oracle} {st : St} {Q : Ex → St → Prop} {fs : List Fr} {d : Option Nat} {b i : Nat} {ap : List X} {r : List IOp} (xs : List X) (fl : Bool) : RunO O code.md (⟨d, .call 160 xs fl, none, b, i, ap⟩ :: r) fs st Q = (quietOk st (.call 160 xs fl) ap = true ∧ RunQ O code.md (callVal O st b 160 (evalXs st xs) fl) d r fs st Q) := R_call 160 xs fl rfl
theorem rcall161 {O : Oracle} {st : St} {Q : Ex → St → Prop} {fs : List Fr} {d : Option Nat} {b i : Nat} {ap : List X} {r : List IOp} (xs : List X) (fl : Bool) : RunO O code.md (⟨d, .call 161 xs fl, none, b, i, ap⟩ :: r) fs st Q = (quietOk st (.call 161 xs fl) ap = true ∧ RunQ O code.md (callVal O st b 161 (evalXs st xs) fl) d r fs st Q) := R_call 161 xs fl rfl
theorem rcall162 {O : Oracle} {st : St} {Q : Ex → St → Prop} {fs : List Fr} {d : Option Nat} {b i : Nat} {ap : List X} {r : List IOp} (xs : List X) (fl : Bool) : RunO O code.md (⟨d, .call 162 xs fl, none, b, i, ap⟩ :: r) fs st Q = (quietOk st (.call 162 xs fl) ap = true ∧ RunQ O code.md (callVal O st b 162 (evalXs st xs) fl) d r fs st Q) := R_call 162 xs fl rfl
theorem rcall163 {O : Oracle} {st : St} {Q : Ex → St → Prop} {fs : List Fr} {d : Option Nat} {b i : Nat} {ap : List X} {r : List IOp} (xs : List X) (fl : Bool) : RunO O code.md (⟨d, .call 163 xs fl, none, b, i, ap⟩ :: r) fs st Q = (quietOk st (.call 163 xs fl) ap = true ∧ RunQ O code.md (callVal O st b 163 (evalXs st xs) fl) d r fs st Q) := R_call 163 xs fl rfl
theorem rcall173 {O : Oracle} {st : St} {Q : Ex → St → Prop} {fs : List Fr} {d : Option Nat} {b i : Nat} {ap : List X} {r : List IOp} (xs : List X) (fl : Bool) : RunO O code.md (⟨d, .call 173 xs fl, none, b, i, ap⟩ :: r) fs st Q = (quietOk st (.call 173 xs fl) ap = true ∧ RunQ O code.md (callVal O st b 173 (evalXs st xs) fl) d r fs st Q) := R_call 173 xs fl rfl
theorem rcall174 {O : Oracle} {st : St} {Q : Ex → St → Prop} {fs : List Fr} {d : Option Nat} {b i : Nat} {ap : List X} {r : List IOp} (xs : List X) (fl : Bool) : RunO O code.md (⟨d, .call 174 xs fl, none, b, i, ap⟩ :: r) fs st Q = (quietOk st (.call 174 xs fl) ap = true ∧ RunQ O code.md (callVal O st b 174 (evalXs st xs) fl) d r fs st Q) := R_call 174 xs fl rfl
theorem rcall175 {O : Oracle} {st : St} {Q : Ex → St → Prop} {fs : List Fr} {d : Option Nat} {b i : Nat} {ap : List X} {r : List IOp} (xs : List X) (fl : Bool) : RunO O code.md (⟨d, .call 175 xs fl, none, b, i, ap⟩ :: r) fs st Q = (quietOk st (.call 175 xs fl) ap = true ∧ RunQ O code.md (callVal O st b 175 (evalXs st xs) fl) d r fs st Q) := R_call 175 xs fl rfl
end Go.Ae.C3
