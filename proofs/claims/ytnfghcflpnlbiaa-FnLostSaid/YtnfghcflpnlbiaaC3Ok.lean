/- The program's functions are the evaluator's. -/
import Derived.Test.YtnfghcflpnlbiaaC3Code
import Derived.Test.YtnfghcflpnlbiaaProg
import Derived.Test.YtnfghcflpnlbiaaShelf
import Derived.KernelRfl
import Derived.Test.YtnfghcflpnlbiaaC0B
namespace Go.Ae.C3
open Go.Proofs
set_option linter.unusedSimpArgs false

theorem ok9 : ∃ fn, Try.prog.funcs[9]? = some fn ∧ FOk Try.prog md fn F9 ∧ (fn.name == "runtime.NumGoroutine") = false :=
  ⟨Try.f9, Try.func9, ⟨⟨_, rfl, .seq (.plain (by kernel_rfl)) (.seq (.seq (.plain (by kernel_rfl)) (.cond (by kernel_rfl) (.seq (.plain (by kernel_rfl)) (.ret)) (.skip))) (.seq (.plain (by kernel_rfl)) (.seq (.plain (by kernel_rfl)) (.seq (.plain (by kernel_rfl)) (.seq (.draw (b := [0, 0, 2, 6, 0, 31, 63, 127, 127, 0, 767, 2047]) (by unfold cIxs; kernel_rfl) (by kernel_rfl) (by kernel_rfl) (by kernel_rfl)) (.seq (.plain (by kernel_rfl)) (.seq (.plain (by kernel_rfl)) (.seq (.plain (by kernel_rfl)) (.seq (.plain (by kernel_rfl)) (.seq (.seq (.plain (by kernel_rfl)) (.cond (by kernel_rfl) (.seq (.plain (by kernel_rfl)) (.ret)) (.skip))) (.seq (.seq (.plain (by kernel_rfl)) (.cond (by kernel_rfl) (.seq (.plain (by kernel_rfl)) (.ret)) (.skip))) (.seq (.plain (by kernel_rfl)) (.seq (.draw (b := [0, 1, 3, 7, 15, 31, 63, 127, 127, 383, 1023, 2047, 4095, 8191, 16383, 32767, 65535, 131071, 131071, 393215, 131071, 1966079, 4063231, 8257535, 16777215, 33554431, 67108863, 134217727, 268435455, 134217727, 1073741823, 2147483647, 134217727, 8589934591, 134217727, 134217727, 51673825279, 137438953471, 274877906943, 549755813887]) (by unfold cIxs; kernel_rfl) (by kernel_rfl) (by kernel_rfl) (by kernel_rfl)) (.ret))))))))))))))⟩, by kernel_rfl, rfl, by decide⟩, by kernel_rfl⟩
theorem ok11 : ∃ fn, Try.prog.funcs[11]? = some fn ∧ FOk Try.prog md fn F11 ∧ (fn.name == "runtime.NumGoroutine") = false :=
  ⟨Try.f11, Try.func11, ⟨⟨_, rfl, .seq (.plain (by kernel_rfl)) (.seq (.seq (.plain (by kernel_rfl)) (.cond (by kernel_rfl) (.seq (.plain (by kernel_rfl)) (.ret)) (.skip))) (.seq (.plain (by kernel_rfl)) (.seq (.plain (by kernel_rfl)) (.seq (.plain (by kernel_rfl)) (.seq (.draw (b := [0, 0, 2, 6, 0, 31, 63, 127, 127, 0, 767, 2047]) (by unfold cIxs; kernel_rfl) (by kernel_rfl) (by kernel_rfl) (by kernel_rfl)) (.seq (.seq (.plain (by kernel_rfl)) (.cond (by kernel_rfl) (.seq (.plain (by kernel_rfl)) (.ret)) (.skip))) (.seq (.draw (b := [0, 0, 0, 4, 12, 30, 0, 64, 0, 256, 960, 2047, 4095]) (by unfold cIxs; kernel_rfl) (by kernel_rfl) (by kernel_rfl) (by kernel_rfl)) (.seq (.plain (by kernel_rfl)) (.seq (.seq (.plain (by kernel_rfl)) (.block (.loop (.seq (.seq (.plain (by kernel_rfl)) (.cond (by kernel_rfl) (.skip) (.exit))) (.seq (.block (.seq (.plain (by kernel_rfl)) (.cond (by kernel_rfl) (.draw (b := [0, 0, 0, 6, 14, 0, 0, 0, 192, 448, 992, 2016, 0, 8160, 16383, 32767]) (by unfold cIxs; kernel_rfl) (by kernel_rfl) (by kernel_rfl) (by kernel_rfl)) (.skip)))) (.plain (by kernel_rfl))))))) (.seq (.plain (by kernel_rfl)) (.seq (.plain (by kernel_rfl)) (.seq (.plain (by kernel_rfl)) (.seq (.plain (by kernel_rfl)) (.seq (.draw (b := [0, 0, 0, 4, 12, 0, 32, 0, 128, 480, 1022, 0, 0, 8191, 16383, 32767, 32767, 65535, 262143]) (by unfold cIxs; kernel_rfl) (by kernel_rfl) (by kernel_rfl) (by kernel_rfl)) (.seq (.plain (by kernel_rfl)) (.ret))))))))))))))))⟩, by kernel_rfl, rfl, by decide⟩, by kernel_rfl⟩
theorem ok12 : ∃ fn, Try.prog.funcs[12]? = some fn ∧ FOk Try.prog md fn F12 ∧ (fn.name == "runtime.NumGoroutine") = false :=
  ⟨Try.f12, Try.func12, ⟨⟨_, rfl, .seq (.plain (by kernel_rfl)) (.seq (.seq (.plain (by kernel_rfl)) (.cond (by kernel_rfl) (.seq (.plain (by kernel_rfl)) (.ret)) (.skip))) (.seq (.plain (by kernel_rfl)) (.seq (.plain (by kernel_rfl)) (.seq (.seq (.plain (by kernel_rfl)) (.cond (by kernel_rfl) (.seq (.plain (by kernel_rfl)) (.ret)) (.skip))) (.seq (.plain (by kernel_rfl)) (.seq (.plain (by kernel_rfl)) (.seq (.plain (by kernel_rfl)) (.seq (.plain (by kernel_rfl)) (.seq (.seq (.plain (by kernel_rfl)) (.cond (by kernel_rfl) (.seq (.plain (by kernel_rfl)) (.ret)) (.skip))) (.seq (.seq (.draw (b := [0, 0, 2, 7, 15]) (by unfold cIxs; kernel_rfl) (by kernel_rfl) (by kernel_rfl) (by kernel_rfl)) (.cond (by kernel_rfl) (.seq (.plain (by kernel_rfl)) (.ret)) (.skip))) (.seq (.seq (.plain (by kernel_rfl)) (.cond (by kernel_rfl) (.seq (.plain (by kernel_rfl)) (.ret)) (.skip))) (.seq (.plain (by kernel_rfl)) (.ret)))))))))))))⟩, by kernel_rfl, rfl, by decide⟩, by kernel_rfl⟩
theorem ok18 : ∃ fn, Try.prog.funcs[18]? = some fn ∧ FOk Try.prog md fn F18 ∧ (fn.name == "runtime.NumGoroutine") = false :=
  ⟨Try.f18, Try.func18, ⟨⟨_, rfl, .seq (.plain (by kernel_rfl)) (.seq (.plain (by kernel_rfl)) (.seq (.plain (by kernel_rfl)) (.seq (.plain (by kernel_rfl)) (.seq (.plain (by kernel_rfl)) (.ret)))))⟩, by kernel_rfl, rfl, by decide⟩, by kernel_rfl⟩
theorem ok26 : ∃ fn, Try.prog.funcs[26]? = some fn ∧ FOk Try.prog md fn F26 ∧ (fn.name == "runtime.NumGoroutine") = false :=
  ⟨Try.f26, Try.func26, ⟨⟨_, rfl, .seq (.plain (by kernel_rfl)) (.seq (.seq (.plain (by kernel_rfl)) (.cond (by kernel_rfl) (.seq (.plain (by kernel_rfl)) (.ret)) (.skip))) (.seq (.seq (.plain (by kernel_rfl)) (.block (.loop (.seq (.seq (.plain (by kernel_rfl)) (.cond (by kernel_rfl) (.skip) (.exit))) (.seq (.block (.seq (.draw (b := [0, 0, 3, 7, 0, 0, 48, 112, 255]) (by unfold cIxs; kernel_rfl) (by kernel_rfl) (by kernel_rfl) (by kernel_rfl)) (.cond (by kernel_rfl) (.seq (.plain (by kernel_rfl)) (.ret)) (.skip)))) (.plain (by kernel_rfl))))))) (.seq (.plain (by kernel_rfl)) (.ret))))⟩, by kernel_rfl, rfl, by decide⟩, by kernel_rfl⟩
theorem ok30 : ∃ fn, Try.prog.funcs[30]? = some fn ∧ FOk Try.prog md fn F30 ∧ (fn.name == "runtime.NumGoroutine") = false :=
  ⟨Try.f30, Try.func30, ⟨⟨_, rfl, .seq (.plain (by kernel_rfl)) (.seq (.plain (by kernel_rfl)) (.seq (.plain (by kernel_rfl)) (.ret)))⟩, by kernel_rfl, rfl, by decide⟩, by kernel_rfl⟩
theorem ok33 : ∃ fn, Try.prog.funcs[33]? = some fn ∧ FOk Try.prog md fn F33 ∧ (fn.name == "runtime.NumGoroutine") = false :=
  ⟨Try.f33, Try.func33, ⟨⟨_, rfl, .seq (.plain (by kernel_rfl)) (.seq (.seq (.plain (by kernel_rfl)) (.cond (by kernel_rfl) (.seq (.plain (by kernel_rfl)) (.ret)) (.skip))) (.seq (.seq (.plain (by kernel_rfl)) (.cond (by kernel_rfl) (.seq (.plain (by kernel_rfl)) (.ret)) (.skip))) (.seq (.plain (by kernel_rfl)) (.seq (.draw (b := [0, 0, 0, 6, 15, 31, 63, 127, 0, 0, 512, 0, 3584, 7936, 16128, 32512, 65535, 0, 0, 393216, 1048575, 0, 4194303, 8388607]) (by unfold cIxs; kernel_rfl) (by kernel_rfl) (by kernel_rfl) (by kernel_rfl)) (.ret)))))⟩, by kernel_rfl, rfl, by decide⟩, by kernel_rfl⟩
theorem ok35 : ∃ fn, Try.prog.funcs[35]? = some fn ∧ FOk Try.prog md fn F35 ∧ (fn.name == "runtime.NumGoroutine") = false :=
  ⟨Try.f35, Try.func35, ⟨⟨_, rfl, .seq (.plain (by kernel_rfl)) (.seq (.plain (by kernel_rfl)) (.seq (.seq (.plain (by kernel_rfl)) (.block (.loop (.seq (.seq (.plain (by kernel_rfl)) (.cond (by kernel_rfl) (.skip) (.exit))) (.seq (.block (.seq (.plain (by kernel_rfl)) (.seq (.plain (by kernel_rfl)) (.seq (.plain (by kernel_rfl)) (.cond (by kernel_rfl) (.plain (by kernel_rfl)) (.skip)))))) (.plain (by kernel_rfl))))))) (.seq (.plain (by kernel_rfl)) (.ret))))⟩, by kernel_rfl, rfl, by decide⟩, by kernel_rfl⟩
theorem ok39 : ∃ fn, Try.prog.funcs[39]? = some fn ∧ FOk Try.prog md fn F39 ∧ (fn.name == "runtime.NumGoroutine") = false :=
  ⟨Try.f39, Try.func39, ⟨⟨_, rfl, .seq (.plain (by kernel_rfl)) (.seq (.plain (by kernel_rfl)) (.seq (.draw (b := [0, 0, 3, 0, 0, 24, 0, 64, 192, 448, 1016, 2040, 4088, 8191, 0, 0, 32768, 114688, 262143, 524287]) (by unfold cIxs; kernel_rfl) (by kernel_rfl) (by kernel_rfl) (by kernel_rfl)) (.ret)))⟩, by kernel_rfl, rfl, by decide⟩, by kernel_rfl⟩
theorem ok42 : ∃ fn, Try.prog.funcs[42]? = some fn ∧ FOk Try.prog md fn F42 ∧ (fn.name == "runtime.NumGoroutine") = false :=
  ⟨Try.f42, Try.func42, ⟨⟨_, rfl, .seq (.plain (by kernel_rfl)) (.seq (.block (.seq (.plain (by kernel_rfl)) (.cond (by kernel_rfl) (.seq (.plain (by kernel_rfl)) (.ret)) (.seq (.plain (by kernel_rfl)) (.cond (by kernel_rfl) (.seq (.plain (by kernel_rfl)) (.ret)) (.seq (.plain (by kernel_rfl)) (.cond (by kernel_rfl) (.seq (.plain (by kernel_rfl)) (.ret)) (.skip)))))))) (.seq (.plain (by kernel_rfl)) (.ret)))⟩, by kernel_rfl, rfl, by decide⟩, by kernel_rfl⟩
theorem ok43 : ∃ fn, Try.prog.funcs[43]? = some fn ∧ FOk Try.prog md fn F43 ∧ (fn.name == "runtime.NumGoroutine") = false :=
  ⟨Try.f43, Try.func43, ⟨⟨_, rfl, .seq (.plain (by kernel_rfl)) (.seq (.seq (.plain (by kernel_rfl)) (.cond (by kernel_rfl) (.seq (.plain (by kernel_rfl)) (.ret)) (.skip))) (.seq (.seq (.plain (by kernel_rfl)) (.cond (by kernel_rfl) (.seq (.plain (by kernel_rfl)) (.ret)) (.skip))) (.seq (.seq (.plain (by kernel_rfl)) (.cond (by kernel_rfl) (.seq (.plain (by kernel_rfl)) (.ret)) (.skip))) (.seq (.seq (.plain (by kernel_rfl)) (.cond (by kernel_rfl) (.seq (.plain (by kernel_rfl)) (.ret)) (.skip))) (.seq (.plain (by kernel_rfl)) (.ret))))))⟩, by kernel_rfl, rfl, by decide⟩, by kernel_rfl⟩
theorem ok46 : ∃ fn, Try.prog.funcs[46]? = some fn ∧ FOk Try.prog md fn F46 ∧ (fn.name == "runtime.NumGoroutine") = false :=
  ⟨Try.f46, Try.func46, ⟨⟨_, rfl, .seq (.plain (by kernel_rfl)) (.seq (.plain (by kernel_rfl)) (.seq (.plain (by kernel_rfl)) (.ret)))⟩, by kernel_rfl, rfl, by decide⟩, by kernel_rfl⟩
theorem ok47 : ∃ fn, Try.prog.funcs[47]? = some fn ∧ FOk Try.prog md fn F47 ∧ (fn.name == "runtime.NumGoroutine") = false :=
  ⟨Try.f47, Try.func47, ⟨⟨_, rfl, .seq (.plain (by kernel_rfl)) (.seq (.seq (.plain (by kernel_rfl)) (.cond (by kernel_rfl) (.seq (.plain (by kernel_rfl)) (.ret)) (.skip))) (.seq (.plain (by kernel_rfl)) (.ret)))⟩, by kernel_rfl, rfl, by decide⟩, by kernel_rfl⟩
theorem ok48 : ∃ fn, Try.prog.funcs[48]? = some fn ∧ FOk Try.prog md fn F48 ∧ (fn.name == "runtime.NumGoroutine") = false :=
  ⟨Try.f48, Try.func48, ⟨⟨_, rfl, .seq (.plain (by kernel_rfl)) (.seq (.block (.seq (.plain (by kernel_rfl)) (.cond (by kernel_rfl) (.seq (.plain (by kernel_rfl)) (.ret)) (.seq (.plain (by kernel_rfl)) (.cond (by kernel_rfl) (.seq (.plain (by kernel_rfl)) (.ret)) (.skip)))))) (.seq (.plain (by kernel_rfl)) (.ret)))⟩, by kernel_rfl, rfl, by decide⟩, by kernel_rfl⟩
theorem ok49 : ∃ fn, Try.prog.funcs[49]? = some fn ∧ FOk Try.prog md fn F49 ∧ (fn.name == "runtime.NumGoroutine") = false :=
  ⟨Try.f49, Try.func49, ⟨⟨_, rfl, .seq (.plain (by kernel_rfl)) (.seq (.seq (.draw (b := [0, 1, 3, 7, 15, 31, 63, 127, 255, 511, 1023, 2047, 4095, 8191, 16383, 32767, 65535, 131071, 262143, 524287, 131071, 1179647, 3276799, 8388607, 16777215]) (by unfold cIxs; kernel_rfl) (by kernel_rfl) (by kernel_rfl) (by kernel_rfl)) (.cond (by kernel_rfl) (.seq (.plain (by kernel_rfl)) (.ret)) (.skip))) (.seq (.plain (by kernel_rfl)) (.ret)))⟩, by kernel_rfl, rfl, by decide⟩, by kernel_rfl⟩
theorem ok50 : ∃ fn, Try.prog.funcs[50]? = some fn ∧ FOk Try.prog md fn F50 ∧ (fn.name == "runtime.NumGoroutine") = false :=
  ⟨Try.f50, Try.func50, ⟨⟨_, rfl, .seq (.plain (by kernel_rfl)) (.seq (.draw (b := [0, 1, 3, 7, 15, 7, 39, 7, 135, 7, 7, 1031, 7, 4103, 15879, 32743, 65511, 131071, 262143, 524287]) (by unfold cIxs; kernel_rfl) (by kernel_rfl) (by kernel_rfl) (by kernel_rfl)) (.ret))⟩, by kernel_rfl, rfl, by decide⟩, by kernel_rfl⟩
theorem ok51 : ∃ fn, Try.prog.funcs[51]? = some fn ∧ FOk Try.prog md fn F51 ∧ (fn.name == "runtime.NumGoroutine") = false :=
  ⟨Try.f51, Try.func51, ⟨⟨_, rfl, .seq (.plain (by kernel_rfl)) (.seq (.block (.seq (.plain (by kernel_rfl)) (.cond (by kernel_rfl) (.seq (.plain (by kernel_rfl)) (.ret)) (.seq (.plain (by kernel_rfl)) (.cond (by kernel_rfl) (.seq (.plain (by kernel_rfl)) (.ret)) (.skip)))))) (.seq (.plain (by kernel_rfl)) (.seq (.plain (by kernel_rfl)) (.ret))))⟩, by kernel_rfl, rfl, by decide⟩, by kernel_rfl⟩
theorem ok52 : ∃ fn, Try.prog.funcs[52]? = some fn ∧ FOk Try.prog md fn F52 ∧ (fn.name == "runtime.NumGoroutine") = false :=
  ⟨Try.f52, Try.func52, ⟨⟨_, rfl, .seq (.plain (by kernel_rfl)) (.seq (.plain (by kernel_rfl)) (.seq (.seq (.plain (by kernel_rfl)) (.cond (by kernel_rfl) (.seq (.plain (by kernel_rfl)) (.ret)) (.skip))) (.seq (.plain (by kernel_rfl)) (.ret))))⟩, by kernel_rfl, rfl, by decide⟩, by kernel_rfl⟩
theorem ok54 : ∃ fn, Try.prog.funcs[54]? = some fn ∧ FOk Try.prog md fn F54 ∧ (fn.name == "runtime.NumGoroutine") = false :=
  ⟨Try.f54, Try.func54, ⟨⟨_, rfl, .seq (.plain (by kernel_rfl)) (.seq (.plain (by kernel_rfl)) (.seq (.plain (by kernel_rfl)) (.seq (.plain (by kernel_rfl)) (.seq (.plain (by kernel_rfl)) (.seq (.plain (by kernel_rfl)) (.seq (.plain (by kernel_rfl)) (.ret)))))))⟩, by kernel_rfl, rfl, by decide⟩, by kernel_rfl⟩
theorem ok55 : ∃ fn, Try.prog.funcs[55]? = some fn ∧ FOk Try.prog md fn F55 ∧ (fn.name == "runtime.NumGoroutine") = false :=
  ⟨Try.f55, Try.func55, ⟨⟨_, rfl, .seq (.plain (by kernel_rfl)) (.seq (.block (.seq (.plain (by kernel_rfl)) (.cond (by kernel_rfl) (.seq (.plain (by kernel_rfl)) (.ret)) (.seq (.plain (by kernel_rfl)) (.cond (by kernel_rfl) (.seq (.plain (by kernel_rfl)) (.ret)) (.seq (.draw (b := [0, 1, 3, 0, 8, 31, 0, 64, 192, 511, 1023]) (by unfold cIxs; kernel_rfl) (by kernel_rfl) (by kernel_rfl) (by kernel_rfl)) (.cond (by kernel_rfl) (.seq (.plain (by kernel_rfl)) (.ret)) (.skip)))))))) (.seq (.plain (by kernel_rfl)) (.seq (.seq (.plain (by kernel_rfl)) (.block (.loop (.seq (.plain (by kernel_rfl)) (.seq (.cond (by kernel_rfl) (.skip) (.exit)) (.seq (.block (.seq (.plain (by kernel_rfl)) (.seq (.plain (by kernel_rfl)) (.cond (by kernel_rfl) (.plain (by kernel_rfl)) (.skip))))) (.plain (by kernel_rfl)))))))) (.seq (.draw (b := [0, 0, 2, 0, 14, 0, 0, 0, 128, 0, 896, 1984, 4095, 8191, 16383]) (by unfold cIxs; kernel_rfl) (by kernel_rfl) (by kernel_rfl) (by kernel_rfl)) (.ret)))))⟩, by kernel_rfl, rfl, by decide⟩, by kernel_rfl⟩
theorem ok56 : ∃ fn, Try.prog.funcs[56]? = some fn ∧ FOk Try.prog md fn F56 ∧ (fn.name == "runtime.NumGoroutine") = false :=
  ⟨Try.f56, Try.func56, ⟨⟨_, rfl, .seq (.plain (by kernel_rfl)) (.seq (.seq (.plain (by kernel_rfl)) (.cond (by kernel_rfl) (.seq (.plain (by kernel_rfl)) (.ret)) (.skip))) (.seq (.seq (.plain (by kernel_rfl)) (.cond (by kernel_rfl) (.seq (.plain (by kernel_rfl)) (.ret)) (.skip))) (.seq (.plain (by kernel_rfl)) (.seq (.seq (.plain (by kernel_rfl)) (.cond (by kernel_rfl) (.seq (.plain (by kernel_rfl)) (.ret)) (.skip))) (.seq (.draw (b := [0, 0, 0, 0, 8, 0, 56, 124, 255, 511, 1023]) (by unfold cIxs; kernel_rfl) (by kernel_rfl) (by kernel_rfl) (by kernel_rfl)) (.ret))))))⟩, by kernel_rfl, rfl, by decide⟩, by kernel_rfl⟩
theorem ok57 : ∃ fn, Try.prog.funcs[57]? = some fn ∧ FOk Try.prog md fn F57 ∧ (fn.name == "runtime.NumGoroutine") = false :=
  ⟨Try.f57, Try.func57, ⟨⟨_, rfl, .seq (.plain (by kernel_rfl)) (.seq (.plain (by kernel_rfl)) (.seq (.seq (.plain (by kernel_rfl)) (.block (.loop (.seq (.seq (.plain (by kernel_rfl)) (.cond (by kernel_rfl) (.skip) (.exit))) (.seq (.block (.plain (by kernel_rfl))) (.plain (by kernel_rfl))))))) (.seq (.plain (by kernel_rfl)) (.ret))))⟩, by kernel_rfl, rfl, by decide⟩, by kernel_rfl⟩
theorem ok65 : ∃ fn, Try.prog.funcs[65]? = some fn ∧ FOk Try.prog md fn F65 ∧ (fn.name == "runtime.NumGoroutine") = false :=
  ⟨Try.f65, Try.func65, ⟨⟨_, rfl, .seq (.plain (by kernel_rfl)) (.seq (.plain (by kernel_rfl)) (.seq (.plain (by kernel_rfl)) (.ret)))⟩, by kernel_rfl, rfl, by decide⟩, by kernel_rfl⟩
theorem ok66 : ∃ fn, Try.prog.funcs[66]? = some fn ∧ FOk Try.prog md fn F66 ∧ (fn.name == "runtime.NumGoroutine") = false :=
  ⟨Try.f66, Try.func66, ⟨⟨_, rfl, .seq (.plain (by kernel_rfl)) (.seq (.plain (by kernel_rfl)) (.ret))⟩, by kernel_rfl, rfl, by decide⟩, by kernel_rfl⟩
theorem ok75 : ∃ fn, Try.prog.funcs[75]? = some fn ∧ FOk Try.prog md fn F75 ∧ (fn.name == "runtime.NumGoroutine") = false :=
  ⟨Try.f75, Try.func75, ⟨⟨_, rfl, .seq (.plain (by kernel_rfl)) (.seq (.plain (by kernel_rfl)) (.seq (.plain (by kernel_rfl)) (.seq (.seq (.plain (by kernel_rfl)) (.block (.loop (.seq (.plain (by kernel_rfl)) (.seq (.cond (by kernel_rfl) (.skip) (.exit)) (.seq (.block (.seq (.plain (by kernel_rfl)) (.seq (.plain (by kernel_rfl)) (.plain (by kernel_rfl))))) (.plain (by kernel_rfl)))))))) (.seq (.plain (by kernel_rfl)) (.seq (.plain (by kernel_rfl)) (.ret))))))⟩, by kernel_rfl, rfl, by decide⟩, by kernel_rfl⟩
theorem ok77 : ∃ fn, Try.prog.funcs[77]? = some fn ∧ FOk Try.prog md fn F77 ∧ (fn.name == "runtime.NumGoroutine") = false :=
  ⟨Try.f77, Try.func77, ⟨⟨_, rfl, .seq (.plain (by kernel_rfl)) (.seq (.plain (by kernel_rfl)) (.ret))⟩, by kernel_rfl, rfl, by decide⟩, by kernel_rfl⟩
theorem ok80 : ∃ fn, Try.prog.funcs[80]? = some fn ∧ FOk Try.prog md fn F80 ∧ (fn.name == "runtime.NumGoroutine") = false :=
  ⟨Try.f80, Try.func80, ⟨⟨_, rfl, .seq (.plain (by kernel_rfl)) (.seq (.plain (by kernel_rfl)) (.ret))⟩, by kernel_rfl, rfl, by decide⟩, by kernel_rfl⟩
theorem ok82 : ∃ fn, Try.prog.funcs[82]? = some fn ∧ FOk Try.prog md fn F82 ∧ (fn.name == "runtime.NumGoroutine") = false :=
  ⟨Try.f82, Try.func82, ⟨⟨_, rfl, .seq (.plain (by kernel_rfl)) (.seq (.plain (by kernel_rfl)) (.ret))⟩, by kernel_rfl, rfl, by decide⟩, by kernel_rfl⟩
theorem ok83 : ∃ fn, Try.prog.funcs[83]? = some fn ∧ FOk Try.prog md fn F83 ∧ (fn.name == "runtime.NumGoroutine") = false :=
  ⟨Try.f83, Try.func83, ⟨⟨_, rfl, .seq (.plain (by kernel_rfl)) (.seq (.plain (by kernel_rfl)) (.ret))⟩, by kernel_rfl, rfl, by decide⟩, by kernel_rfl⟩
theorem ok84 : ∃ fn, Try.prog.funcs[84]? = some fn ∧ FOk Try.prog md fn F84 ∧ (fn.name == "runtime.NumGoroutine") = false :=
  ⟨Try.f84, Try.func84, ⟨⟨_, rfl, .seq (.plain (by kernel_rfl)) (.seq (.plain (by kernel_rfl)) (.ret))⟩, by kernel_rfl, rfl, by decide⟩, by kernel_rfl⟩
theorem ok86 : ∃ fn, Try.prog.funcs[86]? = some fn ∧ FOk Try.prog md fn F86 ∧ (fn.name == "runtime.NumGoroutine") = false :=
  ⟨Try.f86, Try.func86, ⟨⟨_, rfl, .seq (.plain (by kernel_rfl)) (.seq (.plain (by kernel_rfl)) (.ret))⟩, by kernel_rfl, rfl, by decide⟩, by kernel_rfl⟩
theorem ok88 : ∃ fn, Try.prog.funcs[88]? = some fn ∧ FOk Try.prog md fn F88 ∧ (fn.name == "runtime.NumGoroutine") = false :=
  ⟨Try.f88, Try.func88, ⟨⟨_, rfl, .seq (.plain (by kernel_rfl)) (.seq (.plain (by kernel_rfl)) (.ret))⟩, by kernel_rfl, rfl, by decide⟩, by kernel_rfl⟩
theorem ok90 : ∃ fn, Try.prog.funcs[90]? = some fn ∧ FOk Try.prog md fn F90 ∧ (fn.name == "runtime.NumGoroutine") = false :=
  ⟨Try.f90, Try.func90, ⟨⟨_, rfl, .seq (.plain (by kernel_rfl)) (.seq (.plain (by kernel_rfl)) (.seq (.plain (by kernel_rfl)) (.seq (.seq (.plain (by kernel_rfl)) (.block (.loop (.seq (.plain (by kernel_rfl)) (.seq (.cond (by kernel_rfl) (.skip) (.exit)) (.seq (.block (.seq (.plain (by kernel_rfl)) (.plain (by kernel_rfl)))) (.plain (by kernel_rfl)))))))) (.seq (.seq (.plain (by kernel_rfl)) (.block (.loop (.seq (.plain (by kernel_rfl)) (.seq (.cond (by kernel_rfl) (.skip) (.exit)) (.seq (.block (.seq (.plain (by kernel_rfl)) (.seq (.plain (by kernel_rfl)) (.draw (b := [0, 0, 3, 7, 0, 0, 0, 96, 255, 511]) (by unfold cIxs; kernel_rfl) (by kernel_rfl) (by kernel_rfl) (by kernel_rfl))))) (.plain (by kernel_rfl)))))))) (.seq (.plain (by kernel_rfl)) (.seq (.seq (.plain (by kernel_rfl)) (.block (.loop (.seq (.plain (by kernel_rfl)) (.seq (.cond (by kernel_rfl) (.skip) (.exit)) (.seq (.block (.seq (.plain (by kernel_rfl)) (.plain (by kernel_rfl)))) (.plain (by kernel_rfl)))))))) (.seq (.plain (by kernel_rfl)) (.seq (.plain (by kernel_rfl)) (.ret)))))))))⟩, by kernel_rfl, rfl, by decide⟩, by kernel_rfl⟩
theorem ok91 : ∃ fn, Try.prog.funcs[91]? = some fn ∧ FOk Try.prog md fn F91 ∧ (fn.name == "runtime.NumGoroutine") = false :=
  ⟨Try.f91, Try.func91, ⟨⟨_, rfl, .seq (.plain (by kernel_rfl)) (.seq (.seq (.plain (by kernel_rfl)) (.cond (by kernel_rfl) (.seq (.plain (by kernel_rfl)) (.ret)) (.skip))) (.seq (.seq (.plain (by kernel_rfl)) (.cond (by kernel_rfl) (.seq (.plain (by kernel_rfl)) (.ret)) (.skip))) (.seq (.plain (by kernel_rfl)) (.ret))))⟩, by kernel_rfl, rfl, by decide⟩, by kernel_rfl⟩
theorem ok92 : ∃ fn, Try.prog.funcs[92]? = some fn ∧ FOk Try.prog md fn F92 ∧ (fn.name == "runtime.NumGoroutine") = false :=
  ⟨Try.f92, Try.func92, ⟨⟨_, rfl, .seq (.plain (by kernel_rfl)) (.seq (.seq (.plain (by kernel_rfl)) (.cond (by kernel_rfl) (.seq (.plain (by kernel_rfl)) (.ret)) (.skip))) (.seq (.seq (.plain (by kernel_rfl)) (.block (.loop (.seq (.seq (.plain (by kernel_rfl)) (.cond (by kernel_rfl) (.skip) (.exit))) (.seq (.block (.seq (.draw (b := [0, 0, 3, 7, 0, 0, 48, 112, 255]) (by unfold cIxs; kernel_rfl) (by kernel_rfl) (by kernel_rfl) (by kernel_rfl)) (.cond (by kernel_rfl) (.seq (.plain (by kernel_rfl)) (.ret)) (.skip)))) (.plain (by kernel_rfl))))))) (.seq (.plain (by kernel_rfl)) (.ret))))⟩, by kernel_rfl, rfl, by decide⟩, by kernel_rfl⟩
theorem ok96 : ∃ fn, Try.prog.funcs[96]? = some fn ∧ FOk Try.prog md fn F96 ∧ (fn.name == "runtime.NumGoroutine") = false :=
  ⟨Try.f96, Try.func96, ⟨⟨_, rfl, .seq (.plain (by kernel_rfl)) (.seq (.plain (by kernel_rfl)) (.ret))⟩, by kernel_rfl, rfl, by decide⟩, by kernel_rfl⟩
theorem ok97 : ∃ fn, Try.prog.funcs[97]? = some fn ∧ FOk Try.prog md fn F97 ∧ (fn.name == "runtime.NumGoroutine") = false :=
  ⟨Try.f97, Try.func97, ⟨⟨_, rfl, .seq (.plain (by kernel_rfl)) (.seq (.plain (by kernel_rfl)) (.ret))⟩, by kernel_rfl, rfl, by decide⟩, by kernel_rfl⟩
theorem ok98 : ∃ fn, Try.prog.funcs[98]? = some fn ∧ FOk Try.prog md fn F98 ∧ (fn.name == "runtime.NumGoroutine") = false :=
  ⟨Try.f98, Try.func98, ⟨⟨_, rfl, .seq (.plain (by kernel_rfl)) (.seq (.plain (by kernel_rfl)) (.ret))⟩, by kernel_rfl, rfl, by decide⟩, by kernel_rfl⟩
theorem ok99 : ∃ fn, Try.prog.funcs[99]? = some fn ∧ FOk Try.prog md fn F99 ∧ (fn.name == "runtime.NumGoroutine") = false :=
  ⟨Try.f99, Try.func99, ⟨⟨_, rfl, .seq (.plain (by kernel_rfl)) (.seq (.draw (b := [0, 1, 0, 4, 15, 31, 0, 76, 255, 0, 512, 2047, 4095]) (by unfold cIxs; kernel_rfl) (by kernel_rfl) (by kernel_rfl) (by kernel_rfl)) (.ret))⟩, by kernel_rfl, rfl, by decide⟩, by kernel_rfl⟩
theorem ok100 : ∃ fn, Try.prog.funcs[100]? = some fn ∧ FOk Try.prog md fn F100 ∧ (fn.name == "runtime.NumGoroutine") = false :=
  ⟨Try.f100, Try.func100, ⟨⟨_, rfl, .seq (.plain (by kernel_rfl)) (.seq (.seq (.plain (by kernel_rfl)) (.cond (by kernel_rfl) (.seq (.plain (by kernel_rfl)) (.ret)) (.skip))) (.seq (.seq (.plain (by kernel_rfl)) (.block (.loop (.seq (.plain (by kernel_rfl)) (.seq (.cond (by kernel_rfl) (.skip) (.exit)) (.seq (.block (.seq (.plain (by kernel_rfl)) (.seq (.draw (b := [0, 0, 3, 7, 0, 0, 48, 112, 255]) (by unfold cIxs; kernel_rfl) (by kernel_rfl) (by kernel_rfl) (by kernel_rfl)) (.cond (by kernel_rfl) (.seq (.plain (by kernel_rfl)) (.ret)) (.skip))))) (.plain (by kernel_rfl)))))))) (.seq (.plain (by kernel_rfl)) (.ret))))⟩, by kernel_rfl, rfl, by decide⟩, by kernel_rfl⟩
theorem ok101 : ∃ fn, Try.prog.funcs[101]? = some fn ∧ FOk Try.prog md fn F101 ∧ (fn.name == "runtime.NumGoroutine") = false :=
  ⟨Try.f101, Try.func101, ⟨⟨_, rfl, .seq (.plain (by kernel_rfl)) (.seq (.draw (b := [0, 0, 2, 7, 0, 16, 63, 0, 0, 262, 902, 0, 2048, 8070, 0, 0, 32768, 114688, 262022, 895, 1048575]) (by unfold cIxs; kernel_rfl) (by kernel_rfl) (by kernel_rfl) (by kernel_rfl)) (.ret))⟩, by kernel_rfl, rfl, by decide⟩, by kernel_rfl⟩
theorem ok102 : ∃ fn, Try.prog.funcs[102]? = some fn ∧ FOk Try.prog md fn F102 ∧ (fn.name == "runtime.NumGoroutine") = false :=
  ⟨Try.f102, Try.func102, ⟨⟨_, rfl, .seq (.plain (by kernel_rfl)) (.seq (.plain (by kernel_rfl)) (.seq (.seq (.plain (by kernel_rfl)) (.cond (by kernel_rfl) (.seq (.plain (by kernel_rfl)) (.ret)) (.skip))) (.seq (.seq (.plain (by kernel_rfl)) (.block (.loop (.seq (.seq (.plain (by kernel_rfl)) (.cond (by kernel_rfl) (.skip) (.exit))) (.seq (.block (.seq (.plain (by kernel_rfl)) (.seq (.plain (by kernel_rfl)) (.cond (by kernel_rfl) (.seq (.plain (by kernel_rfl)) (.ret)) (.skip))))) (.plain (by kernel_rfl))))))) (.seq (.plain (by kernel_rfl)) (.ret)))))⟩, by kernel_rfl, rfl, by decide⟩, by kernel_rfl⟩
theorem ok103 : ∃ fn, Try.prog.funcs[103]? = some fn ∧ FOk Try.prog md fn F103 ∧ (fn.name == "runtime.NumGoroutine") = false :=
  ⟨Try.f103, Try.func103, ⟨⟨_, rfl, .seq (.plain (by kernel_rfl)) (.seq (.seq (.plain (by kernel_rfl)) (.cond (by kernel_rfl) (.seq (.plain (by kernel_rfl)) (.ret)) (.skip))) (.seq (.seq (.plain (by kernel_rfl)) (.block (.loop (.seq (.seq (.plain (by kernel_rfl)) (.cond (by kernel_rfl) (.skip) (.exit))) (.seq (.block (.seq (.draw (b := [0, 1, 0, 7, 15, 31, 0, 64, 0, 256, 0, 1024, 4032, 8191]) (by unfold cIxs; kernel_rfl) (by kernel_rfl) (by kernel_rfl) (by kernel_rfl)) (.cond (by kernel_rfl) (.seq (.plain (by kernel_rfl)) (.ret)) (.skip)))) (.plain (by kernel_rfl))))))) (.seq (.plain (by kernel_rfl)) (.ret))))⟩, by kernel_rfl, rfl, by decide⟩, by kernel_rfl⟩
theorem ok105 : ∃ fn, Try.prog.funcs[105]? = some fn ∧ FOk Try.prog md fn F105 ∧ (fn.name == "runtime.NumGoroutine") = false :=
  ⟨Try.f105, Try.func105, ⟨⟨_, rfl, .seq (.plain (by kernel_rfl)) (.seq (.plain (by kernel_rfl)) (.seq (.seq (.plain (by kernel_rfl)) (.block (.loop (.seq (.seq (.plain (by kernel_rfl)) (.cond (by kernel_rfl) (.skip) (.exit))) (.seq (.block (.seq (.plain (by kernel_rfl)) (.plain (by kernel_rfl)))) (.plain (by kernel_rfl))))))) (.seq (.plain (by kernel_rfl)) (.ret))))⟩, by kernel_rfl, rfl, by decide⟩, by kernel_rfl⟩
theorem ok106 : ∃ fn, Try.prog.funcs[106]? = some fn ∧ FOk Try.prog md fn F106 ∧ (fn.name == "runtime.NumGoroutine") = false :=
  ⟨Try.f106, Try.func106, ⟨⟨_, rfl, .seq (.plain (by kernel_rfl)) (.seq (.plain (by kernel_rfl)) (.seq (.seq (.plain (by kernel_rfl)) (.block (.loop (.seq (.seq (.plain (by kernel_rfl)) (.cond (by kernel_rfl) (.skip) (.exit))) (.seq (.block (.plain (by kernel_rfl))) (.plain (by kernel_rfl))))))) (.seq (.plain (by kernel_rfl)) (.ret))))⟩, by kernel_rfl, rfl, by decide⟩, by kernel_rfl⟩
theorem ok107 : ∃ fn, Try.prog.funcs[107]? = some fn ∧ FOk Try.prog md fn F107 ∧ (fn.name == "runtime.NumGoroutine") = false :=
  ⟨Try.f107, Try.func107, ⟨⟨_, rfl, .seq (.plain (by kernel_rfl)) (.seq (.seq (.plain (by kernel_rfl)) (.block (.loop (.seq (.seq (.plain (by kernel_rfl)) (.cond (by kernel_rfl) (.skip) (.exit))) (.seq (.block (.seq (.draw (b := [0, 0, 3, 7, 0, 0, 32, 112, 240, 511]) (by unfold cIxs; kernel_rfl) (by kernel_rfl) (by kernel_rfl) (by kernel_rfl)) (.cond (by kernel_rfl) (.seq (.plain (by kernel_rfl)) (.ret)) (.skip)))) (.plain (by kernel_rfl))))))) (.seq (.plain (by kernel_rfl)) (.ret)))⟩, by kernel_rfl, rfl, by decide⟩, by kernel_rfl⟩
theorem ok108 : ∃ fn, Try.prog.funcs[108]? = some fn ∧ FOk Try.prog md fn F108 ∧ (fn.name == "runtime.NumGoroutine") = false :=
  ⟨Try.f108, Try.func108, ⟨⟨_, rfl, .seq (.plain (by kernel_rfl)) (.seq (.plain (by kernel_rfl)) (.ret))⟩, by kernel_rfl, rfl, by decide⟩, by kernel_rfl⟩
theorem ok109 : ∃ fn, Try.prog.funcs[109]? = some fn ∧ FOk Try.prog md fn F109 ∧ (fn.name == "runtime.NumGoroutine") = false :=
  ⟨Try.f109, Try.func109, ⟨⟨_, rfl, .seq (.plain (by kernel_rfl)) (.seq (.plain (by kernel_rfl)) (.ret))⟩, by kernel_rfl, rfl, by decide⟩, by kernel_rfl⟩
theorem ok110 : ∃ fn, Try.prog.funcs[110]? = some fn ∧ FOk Try.prog md fn F110 ∧ (fn.name == "runtime.NumGoroutine") = false :=
  ⟨Try.f110, Try.func110, ⟨⟨_, rfl, .seq (.plain (by kernel_rfl)) (.seq (.seq (.plain (by kernel_rfl)) (.block (.loop (.seq (.seq (.plain (by kernel_rfl)) (.cond (by kernel_rfl) (.skip) (.exit))) (.seq (.block (.seq (.draw (b := [0, 0, 3, 7, 0, 0, 63, 127, 255, 511, 1023, 2047, 4095, 4095, 12287, 32767, 65535, 4095, 4095, 397311, 921599, 2097151, 4194303, 8388607]) (by unfold cIxs; kernel_rfl) (by kernel_rfl) (by kernel_rfl) (by kernel_rfl)) (.cond (by kernel_rfl) (.seq (.plain (by kernel_rfl)) (.ret)) (.skip)))) (.plain (by kernel_rfl))))))) (.seq (.plain (by kernel_rfl)) (.ret)))⟩, by kernel_rfl, rfl, by decide⟩, by kernel_rfl⟩
theorem ok111 : ∃ fn, Try.prog.funcs[111]? = some fn ∧ FOk Try.prog md fn F111 ∧ (fn.name == "runtime.NumGoroutine") = false :=
  ⟨Try.f111, Try.func111, ⟨⟨_, rfl, .seq (.plain (by kernel_rfl)) (.seq (.plain (by kernel_rfl)) (.seq (.seq (.plain (by kernel_rfl)) (.block (.loop (.seq (.seq (.plain (by kernel_rfl)) (.cond (by kernel_rfl) (.skip) (.exit))) (.seq (.block (.seq (.plain (by kernel_rfl)) (.cond (by kernel_rfl) (.plain (by kernel_rfl)) (.skip)))) (.plain (by kernel_rfl))))))) (.seq (.seq (.plain (by kernel_rfl)) (.cond (by kernel_rfl) (.seq (.plain (by kernel_rfl)) (.ret)) (.skip))) (.seq (.plain (by kernel_rfl)) (.seq (.plain (by kernel_rfl)) (.ret))))))⟩, by kernel_rfl, rfl, by decide⟩, by kernel_rfl⟩
theorem ok112 : ∃ fn, Try.prog.funcs[112]? = some fn ∧ FOk Try.prog md fn F112 ∧ (fn.name == "runtime.NumGoroutine") = false :=
  ⟨Try.f112, Try.func112, ⟨⟨_, rfl, .seq (.plain (by kernel_rfl)) (.seq (.seq (.plain (by kernel_rfl)) (.cond (by kernel_rfl) (.seq (.plain (by kernel_rfl)) (.ret)) (.skip))) (.seq (.plain (by kernel_rfl)) (.ret)))⟩, by kernel_rfl, rfl, by decide⟩, by kernel_rfl⟩
theorem ok115 : ∃ fn, Try.prog.funcs[115]? = some fn ∧ FOk Try.prog md fn F115 ∧ (fn.name == "runtime.NumGoroutine") = false :=
  ⟨Try.f115, Try.func115, ⟨⟨_, rfl, .seq (.plain (by kernel_rfl)) (.seq (.plain (by kernel_rfl)) (.ret))⟩, by kernel_rfl, rfl, by decide⟩, by kernel_rfl⟩
theorem ok122 : ∃ fn, Try.prog.funcs[122]? = some fn ∧ FOk Try.prog md fn F122 ∧ (fn.name == "runtime.NumGoroutine") = false :=
  ⟨Try.f122, Try.func122, ⟨⟨_, rfl, .seq (.plain (by kernel_rfl)) (.seq (.plain (by kernel_rfl)) (.seq (.seq (.plain (by kernel_rfl)) (.block (.loop (.seq (.seq (.plain (by kernel_rfl)) (.cond (by kernel_rfl) (.skip) (.exit))) (.seq (.block (.plain (by kernel_rfl))) (.plain (by kernel_rfl))))))) (.seq (.plain (by kernel_rfl)) (.ret))))⟩, by kernel_rfl, rfl, by decide⟩, by kernel_rfl⟩
theorem ok124 : ∃ fn, Try.prog.funcs[124]? = some fn ∧ FOk Try.prog md fn F124 ∧ (fn.name == "runtime.NumGoroutine") = false :=
  ⟨Try.f124, Try.func124, ⟨⟨_, rfl, .seq (.plain (by kernel_rfl)) (.seq (.plain (by kernel_rfl)) (.seq (.plain (by kernel_rfl)) (.seq (.seq (.plain (by kernel_rfl)) (.block (.loop (.seq (.seq (.plain (by kernel_rfl)) (.cond (by kernel_rfl) (.skip) (.exit))) (.seq (.block (.seq (.plain (by kernel_rfl)) (.plain (by kernel_rfl)))) (.plain (by kernel_rfl))))))) (.seq (.plain (by kernel_rfl)) (.seq (.plain (by kernel_rfl)) (.ret))))))⟩, by kernel_rfl, rfl, by decide⟩, by kernel_rfl⟩
theorem ok128 : ∃ fn, Try.prog.funcs[128]? = some fn ∧ FOk Try.prog md fn F128 ∧ (fn.name == "runtime.NumGoroutine") = false :=
  ⟨Try.f128, Try.func128, ⟨⟨_, rfl, .seq (.plain (by kernel_rfl)) (.seq (.draw (b := [0, 1, 0, 4, 0, 16, 48, 127, 0, 511]) (by unfold cIxs; kernel_rfl) (by kernel_rfl) (by kernel_rfl) (by kernel_rfl)) (.seq (.plain (by kernel_rfl)) (.seq (.seq (.plain (by kernel_rfl)) (.block (.loop (.seq (.plain (by kernel_rfl)) (.seq (.cond (by kernel_rfl) (.skip) (.exit)) (.seq (.block (.seq (.plain (by kernel_rfl)) (.seq (.seq (.plain (by kernel_rfl)) (.block (.loop (.seq (.seq (.plain (by kernel_rfl)) (.cond (by kernel_rfl) (.skip) (.exit))) (.seq (.block (.seq (.seq (.plain (by kernel_rfl)) (.cond (by kernel_rfl) (.seq (.plain (by kernel_rfl)) (.ret)) (.skip))) (.seq (.plain (by kernel_rfl)) (.cond (by kernel_rfl) (.seq (.draw (b := [0, 0, 3, 0, 0, 31, 63]) (by unfold cIxs; kernel_rfl) (by kernel_rfl) (by kernel_rfl) (by kernel_rfl)) (.draw (b := [0, 0, 3, 0, 0, 31, 63]) (by unfold cIxs; kernel_rfl) (by kernel_rfl) (by kernel_rfl) (by kernel_rfl))) (.skip))))) (.plain (by kernel_rfl))))))) (.seq (.plain (by kernel_rfl)) (.seq (.draw (b := [0, 0, 3, 0, 0, 31, 63, 0, 255]) (by unfold cIxs; kernel_rfl) (by kernel_rfl) (by kernel_rfl) (by kernel_rfl)) (.seq (.draw (b := [0, 0, 3, 0, 0, 31, 63, 0, 255]) (by unfold cIxs; kernel_rfl) (by kernel_rfl) (by kernel_rfl) (by kernel_rfl)) (.seq (.plain (by kernel_rfl)) (.block (.loop (.seq (.plain (by kernel_rfl)) (.seq (.cond (by kernel_rfl) (.skip) (.exit)) (.seq (.block (.seq (.plain (by kernel_rfl)) (.seq (.plain (by kernel_rfl)) (.seq (.plain (by kernel_rfl)) (.cond (by kernel_rfl) (.seq (.draw (b := [0, 0, 3, 0, 0, 31, 0, 127]) (by unfold cIxs; kernel_rfl) (by kernel_rfl) (by kernel_rfl) (by kernel_rfl)) (.draw (b := [0, 0, 3, 0, 0, 31, 0, 127]) (by unfold cIxs; kernel_rfl) (by kernel_rfl) (by kernel_rfl) (by kernel_rfl))) (.skip)))))) (.plain (by kernel_rfl)))))))))))))) (.plain (by kernel_rfl)))))))) (.seq (.plain (by kernel_rfl)) (.ret)))))⟩, by kernel_rfl, rfl, by decide⟩, by kernel_rfl⟩
theorem ok129 : ∃ fn, Try.prog.funcs[129]? = some fn ∧ FOk Try.prog md fn F129 ∧ (fn.name == "runtime.NumGoroutine") = false :=
  ⟨Try.f129, Try.func129, ⟨⟨_, rfl, .seq (.plain (by kernel_rfl)) (.seq (.plain (by kernel_rfl)) (.seq (.plain (by kernel_rfl)) (.seq (.seq (.plain (by kernel_rfl)) (.block (.loop (.seq (.plain (by kernel_rfl)) (.seq (.cond (by kernel_rfl) (.skip) (.exit)) (.seq (.block (.seq (.plain (by kernel_rfl)) (.seq (.plain (by kernel_rfl)) (.block (.loop (.seq (.plain (by kernel_rfl)) (.seq (.cond (by kernel_rfl) (.skip) (.exit)) (.seq (.block (.seq (.plain (by kernel_rfl)) (.draw (b := [0, 1, 0, 0, 12, 0, 0, 96, 0, 480, 992, 2044, 4092, 8191, 16383, 32767]) (by unfold cIxs; kernel_rfl) (by kernel_rfl) (by kernel_rfl) (by kernel_rfl)))) (.plain (by kernel_rfl)))))))))) (.plain (by kernel_rfl)))))))) (.seq (.plain (by kernel_rfl)) (.ret)))))⟩, by kernel_rfl, rfl, by decide⟩, by kernel_rfl⟩
theorem ok130 : ∃ fn, Try.prog.funcs[130]? = some fn ∧ FOk Try.prog md fn F130 ∧ (fn.name == "runtime.NumGoroutine") = false :=
  ⟨Try.f130, Try.func130, ⟨⟨_, rfl, .seq (.plain (by kernel_rfl)) (.seq (.plain (by kernel_rfl)) (.seq (.seq (.plain (by kernel_rfl)) (.block (.loop (.seq (.plain (by kernel_rfl)) (.seq (.cond (by kernel_rfl) (.skip) (.exit)) (.seq (.block (.seq (.plain (by kernel_rfl)) (.draw (b := [0, 1, 0, 0, 12, 31, 63, 127]) (by unfold cIxs; kernel_rfl) (by kernel_rfl) (by kernel_rfl) (by kernel_rfl)))) (.plain (by kernel_rfl)))))))) (.seq (.plain (by kernel_rfl)) (.ret))))⟩, by kernel_rfl, rfl, by decide⟩, by kernel_rfl⟩
theorem ok131 : ∃ fn, Try.prog.funcs[131]? = some fn ∧ FOk Try.prog md fn F131 ∧ (fn.name == "runtime.NumGoroutine") = false :=
  ⟨Try.f131, Try.func131, ⟨⟨_, rfl, .seq (.plain (by kernel_rfl)) (.seq (.plain (by kernel_rfl)) (.seq (.seq (.plain (by kernel_rfl)) (.block (.loop (.seq (.plain (by kernel_rfl)) (.seq (.cond (by kernel_rfl) (.skip) (.exit)) (.seq (.block (.seq (.plain (by kernel_rfl)) (.seq (.plain (by kernel_rfl)) (.seq (.seq (.plain (by kernel_rfl)) (.block (.loop (.seq (.plain (by kernel_rfl)) (.seq (.cond (by kernel_rfl) (.skip) (.exit)) (.seq (.block (.seq (.plain (by kernel_rfl)) (.plain (by kernel_rfl)))) (.plain (by kernel_rfl)))))))) (.plain (by kernel_rfl)))))) (.plain (by kernel_rfl)))))))) (.seq (.plain (by kernel_rfl)) (.ret))))⟩, by kernel_rfl, rfl, by decide⟩, by kernel_rfl⟩
theorem ok132 : ∃ fn, Try.prog.funcs[132]? = some fn ∧ FOk Try.prog md fn F132 ∧ (fn.name == "runtime.NumGoroutine") = false :=
  ⟨Try.f132, Try.func132, ⟨⟨_, rfl, .seq (.plain (by kernel_rfl)) (.seq (.plain (by kernel_rfl)) (.seq (.seq (.plain (by kernel_rfl)) (.block (.loop (.seq (.seq (.plain (by kernel_rfl)) (.cond (by kernel_rfl) (.skip) (.exit))) (.seq (.block (.seq (.plain (by kernel_rfl)) (.seq (.seq (.plain (by kernel_rfl)) (.block (.loop (.seq (.seq (.plain (by kernel_rfl)) (.cond (by kernel_rfl) (.skip) (.exit))) (.seq (.block (.draw (b := [0, 0, 2, 0, 0, 16, 56, 0, 248, 510, 1022, 0, 0, 6144, 14336, 32766, 65535, 131071]) (by unfold cIxs; kernel_rfl) (by kernel_rfl) (by kernel_rfl) (by kernel_rfl))) (.plain (by kernel_rfl))))))) (.plain (by kernel_rfl))))) (.plain (by kernel_rfl))))))) (.seq (.plain (by kernel_rfl)) (.ret))))⟩, by kernel_rfl, rfl, by decide⟩, by kernel_rfl⟩
theorem ok133 : ∃ fn, Try.prog.funcs[133]? = some fn ∧ FOk Try.prog md fn F133 ∧ (fn.name == "runtime.NumGoroutine") = false :=
  ⟨Try.f133, Try.func133, ⟨⟨_, rfl, .seq (.plain (by kernel_rfl)) (.seq (.plain (by kernel_rfl)) (.seq (.plain (by kernel_rfl)) (.seq (.seq (.plain (by kernel_rfl)) (.block (.loop (.seq (.seq (.plain (by kernel_rfl)) (.cond (by kernel_rfl) (.skip) (.exit))) (.seq (.block (.seq (.plain (by kernel_rfl)) (.block (.loop (.seq (.seq (.plain (by kernel_rfl)) (.cond (by kernel_rfl) (.skip) (.exit))) (.seq (.block (.draw (b := [0, 1, 0, 0, 12, 0, 0, 96, 0, 480, 992, 2044, 4092, 8191, 16383, 32767]) (by unfold cIxs; kernel_rfl) (by kernel_rfl) (by kernel_rfl) (by kernel_rfl))) (.plain (by kernel_rfl)))))))) (.plain (by kernel_rfl))))))) (.seq (.plain (by kernel_rfl)) (.ret)))))⟩, by kernel_rfl, rfl, by decide⟩, by kernel_rfl⟩
theorem ok134 : ∃ fn, Try.prog.funcs[134]? = some fn ∧ FOk Try.prog md fn F134 ∧ (fn.name == "runtime.NumGoroutine") = false :=
  ⟨Try.f134, Try.func134, ⟨⟨_, rfl, .seq (.plain (by kernel_rfl)) (.seq (.seq (.plain (by kernel_rfl)) (.cond (by kernel_rfl) (.seq (.plain (by kernel_rfl)) (.ret)) (.skip))) (.seq (.plain (by kernel_rfl)) (.seq (.seq (.plain (by kernel_rfl)) (.cond (by kernel_rfl) (.plain (by kernel_rfl)) (.skip))) (.seq (.plain (by kernel_rfl)) (.ret)))))⟩, by kernel_rfl, rfl, by decide⟩, by kernel_rfl⟩
theorem ok136 : ∃ fn, Try.prog.funcs[136]? = some fn ∧ FOk Try.prog md fn F136 ∧ (fn.name == "runtime.NumGoroutine") = false :=
  ⟨Try.f136, Try.func136, ⟨⟨_, rfl, .seq (.plain (by kernel_rfl)) (.seq (.plain (by kernel_rfl)) (.seq (.plain (by kernel_rfl)) (.ret)))⟩, by kernel_rfl, rfl, by decide⟩, by kernel_rfl⟩
theorem ok138 : ∃ fn, Try.prog.funcs[138]? = some fn ∧ FOk Try.prog md fn F138 ∧ (fn.name == "runtime.NumGoroutine") = false :=
  ⟨Try.f138, Try.func138, ⟨⟨_, rfl, .seq (.plain (by kernel_rfl)) (.seq (.seq (.plain (by kernel_rfl)) (.block (.loop (.seq (.plain (by kernel_rfl)) (.seq (.cond (by kernel_rfl) (.skip) (.exit)) (.seq (.block (.seq (.plain (by kernel_rfl)) (.seq (.plain (by kernel_rfl)) (.cond (by kernel_rfl) (.seq (.plain (by kernel_rfl)) (.ret)) (.skip))))) (.plain (by kernel_rfl)))))))) (.seq (.plain (by kernel_rfl)) (.ret)))⟩, by kernel_rfl, rfl, by decide⟩, by kernel_rfl⟩
theorem ok139 : ∃ fn, Try.prog.funcs[139]? = some fn ∧ FOk Try.prog md fn F139 ∧ (fn.name == "runtime.NumGoroutine") = false :=
  ⟨Try.f139, Try.func139, ⟨⟨_, rfl, .seq (.plain (by kernel_rfl)) (.seq (.plain (by kernel_rfl)) (.seq (.plain (by kernel_rfl)) (.seq (.draw (b := [0, 0, 2, 7, 0, 0, 48, 0, 128, 496, 0, 0, 2048, 7168, 16368, 15, 65535]) (by unfold cIxs; kernel_rfl) (by kernel_rfl) (by kernel_rfl) (by kernel_rfl)) (.ret))))⟩, by kernel_rfl, rfl, by decide⟩, by kernel_rfl⟩
theorem ok140 : ∃ fn, Try.prog.funcs[140]? = some fn ∧ FOk Try.prog md fn F140 ∧ (fn.name == "runtime.NumGoroutine") = false :=
  ⟨Try.f140, Try.func140, ⟨⟨_, rfl, .seq (.plain (by kernel_rfl)) (.seq (.plain (by kernel_rfl)) (.ret))⟩, by kernel_rfl, rfl, by decide⟩, by kernel_rfl⟩
theorem ok141 : ∃ fn, Try.prog.funcs[141]? = some fn ∧ FOk Try.prog md fn F141 ∧ (fn.name == "runtime.NumGoroutine") = false :=
  ⟨Try.f141, Try.func141, ⟨⟨_, rfl, .seq (.plain (by kernel_rfl)) (.seq (.plain (by kernel_rfl)) (.ret))⟩, by kernel_rfl, rfl, by decide⟩, by kernel_rfl⟩
theorem ok142 : ∃ fn, Try.prog.funcs[142]? = some fn ∧ FOk Try.prog md fn F142 ∧ (fn.name == "runtime.NumGoroutine") = false :=
  ⟨Try.f142, Try.func142, ⟨⟨_, rfl, .seq (.plain (by kernel_rfl)) (.seq (.seq (.plain (by kernel_rfl)) (.block (.loop (.seq (.plain (by kernel_rfl)) (.seq (.cond (by kernel_rfl) (.skip) (.exit)) (.seq (.block (.seq (.plain (by kernel_rfl)) (.seq (.plain (by kernel_rfl)) (.cond (by kernel_rfl) (.seq (.plain (by kernel_rfl)) (.ret)) (.skip))))) (.plain (by kernel_rfl)))))))) (.seq (.plain (by kernel_rfl)) (.ret)))⟩, by kernel_rfl, rfl, by decide⟩, by kernel_rfl⟩
theorem ok143 : ∃ fn, Try.prog.funcs[143]? = some fn ∧ FOk Try.prog md fn F143 ∧ (fn.name == "runtime.NumGoroutine") = false :=
  ⟨Try.f143, Try.func143, ⟨⟨_, rfl, .seq (.plain (by kernel_rfl)) (.seq (.seq (.plain (by kernel_rfl)) (.block (.loop (.seq (.seq (.plain (by kernel_rfl)) (.cond (by kernel_rfl) (.skip) (.exit))) (.seq (.block (.seq (.plain (by kernel_rfl)) (.cond (by kernel_rfl) (.seq (.plain (by kernel_rfl)) (.ret)) (.skip)))) (.plain (by kernel_rfl))))))) (.seq (.plain (by kernel_rfl)) (.ret)))⟩, by kernel_rfl, rfl, by decide⟩, by kernel_rfl⟩
theorem ok146 : ∃ fn, Try.prog.funcs[146]? = some fn ∧ FOk Try.prog md fn F146 ∧ (fn.name == "runtime.NumGoroutine") = false :=
  ⟨Try.f146, Try.func146, ⟨⟨_, rfl, .seq (.plain (by kernel_rfl)) (.seq (.plain (by kernel_rfl)) (.seq (.seq (.plain (by kernel_rfl)) (.block (.loop (.seq (.seq (.plain (by kernel_rfl)) (.cond (by kernel_rfl) (.skip) (.exit))) (.seq (.block (.draw (b := [0, 0, 0, 6, 0, 0, 48, 126, 254, 511, 1023]) (by unfold cIxs; kernel_rfl) (by kernel_rfl) (by kernel_rfl) (by kernel_rfl))) (.plain (by kernel_rfl))))))) (.seq (.plain (by kernel_rfl)) (.ret))))⟩, by kernel_rfl, rfl, by decide⟩, by kernel_rfl⟩
theorem ok147 : ∃ fn, Try.prog.funcs[147]? = some fn ∧ FOk Try.prog md fn F147 ∧ (fn.name == "runtime.NumGoroutine") = false :=
  ⟨Try.f147, Try.func147, ⟨⟨_, rfl, .seq (.plain (by kernel_rfl)) (.seq (.plain (by kernel_rfl)) (.seq (.seq (.plain (by kernel_rfl)) (.block (.loop (.seq (.plain (by kernel_rfl)) (.seq (.cond (by kernel_rfl) (.skip) (.exit)) (.seq (.block (.seq (.plain (by kernel_rfl)) (.draw (b := [0, 0, 0, 0, 12, 0, 0, 96, 252, 511, 1023]) (by unfold cIxs; kernel_rfl) (by kernel_rfl) (by kernel_rfl) (by kernel_rfl)))) (.plain (by kernel_rfl)))))))) (.seq (.plain (by kernel_rfl)) (.ret))))⟩, by kernel_rfl, rfl, by decide⟩, by kernel_rfl⟩
theorem ok148 : ∃ fn, Try.prog.funcs[148]? = some fn ∧ FOk Try.prog md fn F148 ∧ (fn.name == "runtime.NumGoroutine") = false :=
  ⟨Try.f148, Try.func148, ⟨⟨_, rfl, .seq (.plain (by kernel_rfl)) (.seq (.plain (by kernel_rfl)) (.seq (.seq (.draw (b := [0, 1, 3, 7, 0, 16, 48, 112, 240, 511]) (by unfold cIxs; kernel_rfl) (by kernel_rfl) (by kernel_rfl) (by kernel_rfl)) (.cond (by kernel_rfl) (.draw (b := [0, 1, 3, 7, 0, 16, 48, 112, 255, 511, 1023, 2047]) (by unfold cIxs; kernel_rfl) (by kernel_rfl) (by kernel_rfl) (by kernel_rfl)) (.skip))) (.seq (.plain (by kernel_rfl)) (.seq (.plain (by kernel_rfl)) (.seq (.seq (.draw (b := [0, 1, 3, 7, 0, 16, 48, 112, 240, 511]) (by unfold cIxs; kernel_rfl) (by kernel_rfl) (by kernel_rfl) (by kernel_rfl)) (.cond (by kernel_rfl) (.seq (.plain (by kernel_rfl)) (.ret)) (.skip))) (.seq (.plain (by kernel_rfl)) (.ret)))))))⟩, by kernel_rfl, rfl, by decide⟩, by kernel_rfl⟩
theorem ok149 : ∃ fn, Try.prog.funcs[149]? = some fn ∧ FOk Try.prog md fn F149 ∧ (fn.name == "runtime.NumGoroutine") = false :=
  ⟨Try.f149, Try.func149, ⟨⟨_, rfl, .seq (.plain (by kernel_rfl)) (.seq (.plain (by kernel_rfl)) (.seq (.plain (by kernel_rfl)) (.seq (.plain (by kernel_rfl)) (.seq (.seq (.plain (by kernel_rfl)) (.block (.loop (.seq (.seq (.plain (by kernel_rfl)) (.cond (by kernel_rfl) (.skip) (.exit))) (.seq (.block (.seq (.plain (by kernel_rfl)) (.seq (.block (.loop (.seq (.seq (.plain (by kernel_rfl)) (.cond (by kernel_rfl) (.skip) (.exit))) (.block (.plain (by kernel_rfl)))))) (.seq (.seq (.plain (by kernel_rfl)) (.cond (by kernel_rfl) (.seq (.plain (by kernel_rfl)) (.ret)) (.skip))) (.seq (.plain (by kernel_rfl)) (.seq (.plain (by kernel_rfl)) (.plain (by kernel_rfl)))))))) (.plain (by kernel_rfl))))))) (.seq (.plain (by kernel_rfl)) (.ret))))))⟩, by kernel_rfl, rfl, by decide⟩, by kernel_rfl⟩
theorem ok150 : ∃ fn, Try.prog.funcs[150]? = some fn ∧ FOk Try.prog md fn F150 ∧ (fn.name == "runtime.NumGoroutine") = false :=
  ⟨Try.f150, Try.func150, ⟨⟨_, rfl, .seq (.plain (by kernel_rfl)) (.seq (.plain (by kernel_rfl)) (.seq (.seq (.plain (by kernel_rfl)) (.block (.loop (.seq (.seq (.plain (by kernel_rfl)) (.cond (by kernel_rfl) (.skip) (.exit))) (.seq (.block (.draw (b := [0, 1, 0, 4, 0, 0, 48, 112, 0, 256, 1008, 0, 0, 6144, 14336, 30720, 0, 65536, 260096, 524284, 1048575, 2097151, 4194303]) (by unfold cIxs; kernel_rfl) (by kernel_rfl) (by kernel_rfl) (by kernel_rfl))) (.plain (by kernel_rfl))))))) (.seq (.plain (by kernel_rfl)) (.ret))))⟩, by kernel_rfl, rfl, by decide⟩, by kernel_rfl⟩
theorem ok153 : ∃ fn, Try.prog.funcs[153]? = some fn ∧ FOk Try.prog md fn F153 ∧ (fn.name == "runtime.NumGoroutine") = false :=
  ⟨Try.f153, Try.func153, ⟨⟨_, rfl, .seq (.plain (by kernel_rfl)) (.seq (.ifnil (e := 2) (by rfl) (by kernel_rfl) (by rfl) (by simp) (by kernel_rfl) (by kernel_rfl) (by rfl) (by rfl) (.seq (.plain (by kernel_rfl)) (.ret)) (.skip)) (.seq (.plain (by kernel_rfl)) (.ret)))⟩, by kernel_rfl, rfl, by decide⟩, by kernel_rfl⟩
theorem ok154 : ∃ fn, Try.prog.funcs[154]? = some fn ∧ FOk Try.prog md fn F154 ∧ (fn.name == "runtime.NumGoroutine") = false :=
  ⟨Try.f154, Try.func154, ⟨⟨_, rfl, .seq (.plain (by kernel_rfl)) (.seq (.plain (by kernel_rfl)) (.seq (.seq (.plain (by kernel_rfl)) (.block (.loop (.seq (.plain (by kernel_rfl)) (.seq (.cond (by kernel_rfl) (.skip) (.exit)) (.seq (.block (.seq (.plain (by kernel_rfl)) (.plain (by kernel_rfl)))) (.plain (by kernel_rfl)))))))) (.seq (.plain (by kernel_rfl)) (.ret))))⟩, by kernel_rfl, rfl, by decide⟩, by kernel_rfl⟩
theorem ok155 : ∃ fn, Try.prog.funcs[155]? = some fn ∧ FOk Try.prog md fn F155 ∧ (fn.name == "runtime.NumGoroutine") = false :=
  ⟨Try.f155, Try.func155, ⟨⟨_, rfl, .seq (.plain (by kernel_rfl)) (.seq (.plain (by kernel_rfl)) (.ret))⟩, by kernel_rfl, rfl, by decide⟩, by kernel_rfl⟩
theorem ok156 : ∃ fn, Try.prog.funcs[156]? = some fn ∧ FOk Try.prog md fn F156 ∧ (fn.name == "runtime.NumGoroutine") = false :=
  ⟨Try.f156, Try.func156, ⟨⟨_, rfl, .seq (.plain (by kernel_rfl)) (.block (.loop (.seq (.plain (by kernel_rfl)) (.seq (.cond (by kernel_rfl) (.skip) (.exit)) (.seq (.block (.seq (.plain (by kernel_rfl)) (.draw (b := [0, 0, 3, 7, 0, 0, 48, 127, 255, 511]) (by unfold cIxs; kernel_rfl) (by kernel_rfl) (by kernel_rfl) (by kernel_rfl)))) (.plain (by kernel_rfl)))))))⟩, by kernel_rfl, rfl, by decide⟩, by kernel_rfl⟩
theorem ok157 : ∃ fn, Try.prog.funcs[157]? = some fn ∧ FOk Try.prog md fn F157 ∧ (fn.name == "runtime.NumGoroutine") = false :=
  ⟨Try.f157, Try.func157, ⟨⟨_, rfl, .seq (.plain (by kernel_rfl)) (.seq (.plain (by kernel_rfl)) (.ret))⟩, by kernel_rfl, rfl, by decide⟩, by kernel_rfl⟩
theorem ok158 : ∃ fn, Try.prog.funcs[158]? = some fn ∧ FOk Try.prog md fn F158 ∧ (fn.name == "runtime.NumGoroutine") = false :=
  ⟨Try.f158, Try.func158, ⟨⟨_, rfl, .seq (.plain (by kernel_rfl)) (.seq (.plain (by kernel_rfl)) (.seq (.block (.loop (.seq (.seq (.plain (by kernel_rfl)) (.cond (by kernel_rfl) (.skip) (.exit))) (.seq (.block (.seq (.seq (.plain (by kernel_rfl)) (.cond (by kernel_rfl) (.plain (by kernel_rfl)) (.skip))) (.plain (by kernel_rfl)))) (.plain (by kernel_rfl)))))) (.seq (.plain (by kernel_rfl)) (.ret))))⟩, by kernel_rfl, rfl, by decide⟩, by kernel_rfl⟩
theorem ok159 : ∃ fn, Try.prog.funcs[159]? = some fn ∧ FOk Try.prog md fn F159 ∧ (fn.name == "runtime.NumGoroutine") = false :=
  ⟨Try.f159, Try.func159, ⟨⟨_, rfl, .seq (.plain (by kernel_rfl)) (.seq (.plain (by kernel_rfl)) (.seq (.seq (.plain (by kernel_rfl)) (.block (.loop (.seq (.plain (by kernel_rfl)) (.seq (.cond (by kernel_rfl) (.skip) (.exit)) (.seq (.block (.seq (.plain (by kernel_rfl)) (.plain (by kernel_rfl)))) (.plain (by kernel_rfl)))))))) (.seq (.plain (by kernel_rfl)) (.ret))))⟩, by kernel_rfl, rfl, by decide⟩, by kernel_rfl⟩
theorem ok160 : ∃ fn, Try.prog.funcs[160]? = some fn ∧ FOk Try.prog md fn F160 ∧ (fn.name == "runtime.NumGoroutine") = false :=
  ⟨Try.f160, Try.func160, ⟨⟨_, rfl, .seq (.plain (by kernel_rfl)) (.seq (.plain (by kernel_rfl)) (.seq (.seq (.plain (by kernel_rfl)) (.block (.loop (.seq (.seq (.plain (by kernel_rfl)) (.cond (by kernel_rfl) (.skip) (.exit))) (.seq (.block (.plain (by kernel_rfl))) (.plain (by kernel_rfl))))))) (.seq (.plain (by kernel_rfl)) (.ret))))⟩, by kernel_rfl, rfl, by decide⟩, by kernel_rfl⟩
theorem ok161 : ∃ fn, Try.prog.funcs[161]? = some fn ∧ FOk Try.prog md fn F161 ∧ (fn.name == "runtime.NumGoroutine") = false :=
  ⟨Try.f161, Try.func161, ⟨⟨_, rfl, .seq (.plain (by kernel_rfl)) (.seq (.plain (by kernel_rfl)) (.seq (.seq (.plain (by kernel_rfl)) (.block (.loop (.seq (.seq (.plain (by kernel_rfl)) (.cond (by kernel_rfl) (.skip) (.exit))) (.seq (.block (.seq (.plain (by kernel_rfl)) (.cond (by kernel_rfl) (.plain (by kernel_rfl)) (.plain (by kernel_rfl))))) (.plain (by kernel_rfl))))))) (.seq (.plain (by kernel_rfl)) (.ret))))⟩, by kernel_rfl, rfl, by decide⟩, by kernel_rfl⟩
theorem ok162 : ∃ fn, Try.prog.funcs[162]? = some fn ∧ FOk Try.prog md fn F162 ∧ (fn.name == "runtime.NumGoroutine") = false :=
  ⟨Try.f162, Try.func162, ⟨⟨_, rfl, .seq (.plain (by kernel_rfl)) (.seq (.plain (by kernel_rfl)) (.seq (.seq (.plain (by kernel_rfl)) (.block (.loop (.seq (.seq (.plain (by kernel_rfl)) (.cond (by kernel_rfl) (.skip) (.exit))) (.seq (.block (.seq (.seq (.plain (by kernel_rfl)) (.cond (by kernel_rfl) (.plain (by kernel_rfl)) (.skip))) (.seq (.plain (by kernel_rfl)) (.seq (.plain (by kernel_rfl)) (.seq (.plain (by kernel_rfl)) (.cond (by kernel_rfl) (.plain (by kernel_rfl)) (.skip))))))) (.plain (by kernel_rfl))))))) (.seq (.plain (by kernel_rfl)) (.ret))))⟩, by kernel_rfl, rfl, by decide⟩, by kernel_rfl⟩
theorem ok163 : ∃ fn, Try.prog.funcs[163]? = some fn ∧ FOk Try.prog md fn F163 ∧ (fn.name == "runtime.NumGoroutine") = false :=
  ⟨Try.f163, Try.func163, ⟨⟨_, rfl, .seq (.plain (by kernel_rfl)) (.seq (.plain (by kernel_rfl)) (.ret))⟩, by kernel_rfl, rfl, by decide⟩, by kernel_rfl⟩
theorem ok167 : ∃ fn, Try.prog.funcs[167]? = some fn ∧ FOk Try.prog md fn F167 ∧ (fn.name == "runtime.NumGoroutine") = false :=
  ⟨Try.f167, Try.func167, ⟨⟨_, rfl, .seq (.plain (by kernel_rfl)) (.seq (.seq (.plain (by kernel_rfl)) (.block (.loop (.seq (.plain (by kernel_rfl)) (.seq (.cond (by kernel_rfl) (.skip) (.exit)) (.seq (.block (.seq (.plain (by kernel_rfl)) (.seq (.plain (by kernel_rfl)) (.cond (by kernel_rfl) (.seq (.plain (by kernel_rfl)) (.ret)) (.skip))))) (.plain (by kernel_rfl)))))))) (.seq (.plain (by kernel_rfl)) (.ret)))⟩, by kernel_rfl, rfl, by decide⟩, by kernel_rfl⟩
theorem ok168 : ∃ fn, Try.prog.funcs[168]? = some fn ∧ FOk Try.prog md fn F168 ∧ (fn.name == "runtime.NumGoroutine") = false :=
  ⟨Try.f168, Try.func168, ⟨⟨_, rfl, .seq (.plain (by kernel_rfl)) (.seq (.plain (by kernel_rfl)) (.ret))⟩, by kernel_rfl, rfl, by decide⟩, by kernel_rfl⟩
theorem ok169 : ∃ fn, Try.prog.funcs[169]? = some fn ∧ FOk Try.prog md fn F169 ∧ (fn.name == "runtime.NumGoroutine") = false :=
  ⟨Try.f169, Try.func169, ⟨⟨_, rfl, .seq (.plain (by kernel_rfl)) (.block (.loop (.seq (.seq (.plain (by kernel_rfl)) (.cond (by kernel_rfl) (.skip) (.exit))) (.seq (.block (.seq (.plain (by kernel_rfl)) (.seq (.plain (by kernel_rfl)) (.plain (by kernel_rfl))))) (.plain (by kernel_rfl))))))⟩, by kernel_rfl, rfl, by decide⟩, by kernel_rfl⟩
theorem ok170 : ∃ fn, Try.prog.funcs[170]? = some fn ∧ FOk Try.prog md fn F170 ∧ (fn.name == "runtime.NumGoroutine") = false :=
  ⟨Try.f170, Try.func170, ⟨⟨_, rfl, .seq (.plain (by kernel_rfl)) (.seq (.seq (.plain (by kernel_rfl)) (.block (.loop (.seq (.seq (.plain (by kernel_rfl)) (.cond (by kernel_rfl) (.skip) (.exit))) (.seq (.block (.seq (.plain (by kernel_rfl)) (.plain (by kernel_rfl)))) (.plain (by kernel_rfl))))))) (.seq (.plain (by kernel_rfl)) (.block (.loop (.seq (.seq (.plain (by kernel_rfl)) (.cond (by kernel_rfl) (.skip) (.exit))) (.seq (.block (.seq (.plain (by kernel_rfl)) (.seq (.seq (.plain (by kernel_rfl)) (.cond (by kernel_rfl) (.exit) (.skip))) (.seq (.plain (by kernel_rfl)) (.block (.loop (.seq (.seq (.plain (by kernel_rfl)) (.cond (by kernel_rfl) (.skip) (.exit))) (.seq (.block (.seq (.draw (b := [0, 0, 0, 6, 0, 30, 63, 127, 0, 0, 0, 0, 3072, 0, 15360, 32256, 65024, 130816, 262143, 524287, 1048575]) (by unfold cIxs; kernel_rfl) (by kernel_rfl) (by kernel_rfl) (by kernel_rfl)) (.draw (b := [0, 0, 0, 6, 0, 30, 63, 127, 0, 0, 0, 0, 3072, 0, 15360, 32256, 65024, 130816, 262143, 524287, 1048575]) (by unfold cIxs; kernel_rfl) (by kernel_rfl) (by kernel_rfl) (by kernel_rfl)))) (.plain (by kernel_rfl)))))))))) (.plain (by kernel_rfl))))))))⟩, by kernel_rfl, rfl, by decide⟩, by kernel_rfl⟩
theorem ok173 : ∃ fn, Try.prog.funcs[173]? = some fn ∧ FOk Try.prog md fn F173 ∧ (fn.name == "runtime.NumGoroutine") = false :=
  ⟨Try.f173, Try.func173, ⟨⟨_, rfl, .seq (.plain (by kernel_rfl)) (.seq (.plain (by kernel_rfl)) (.seq (.block (.loop (.seq (.seq (.plain (by kernel_rfl)) (.cond (by kernel_rfl) (.skip) (.exit))) (.seq (.block (.seq (.seq (.plain (by kernel_rfl)) (.cond (by kernel_rfl) (.plain (by kernel_rfl)) (.skip))) (.plain (by kernel_rfl)))) (.plain (by kernel_rfl)))))) (.seq (.plain (by kernel_rfl)) (.ret))))⟩, by kernel_rfl, rfl, by decide⟩, by kernel_rfl⟩
theorem ok174 : ∃ fn, Try.prog.funcs[174]? = some fn ∧ FOk Try.prog md fn F174 ∧ (fn.name == "runtime.NumGoroutine") = false :=
  ⟨Try.f174, Try.func174, ⟨⟨_, rfl, .seq (.plain (by kernel_rfl)) (.seq (.plain (by kernel_rfl)) (.seq (.seq (.plain (by kernel_rfl)) (.cond (by kernel_rfl) (.plain (by kernel_rfl)) (.skip))) (.seq (.plain (by kernel_rfl)) (.ret))))⟩, by kernel_rfl, rfl, by decide⟩, by kernel_rfl⟩
theorem ok175 : ∃ fn, Try.prog.funcs[175]? = some fn ∧ FOk Try.prog md fn F175 ∧ (fn.name == "runtime.NumGoroutine") = false :=
  ⟨Try.f175, Try.func175, ⟨⟨_, rfl, .seq (.plain (by kernel_rfl)) (.seq (.plain (by kernel_rfl)) (.seq (.block (.loop (.seq (.seq (.plain (by kernel_rfl)) (.cond (by kernel_rfl) (.skip) (.exit))) (.block (.seq (.seq (.plain (by kernel_rfl)) (.cond (by kernel_rfl) (.plain (by kernel_rfl)) (.skip))) (.seq (.plain (by kernel_rfl)) (.plain (by kernel_rfl)))))))) (.seq (.plain (by kernel_rfl)) (.ret))))⟩, by kernel_rfl, rfl, by decide⟩, by kernel_rfl⟩
set_option maxRecDepth 100000 in
theorem progOk : ProgOk Try.prog code where
  fn := fun f F _ h => by
    simp only [code, fns] at h
    split at h
    · cases h; exact ok9
    · cases h; exact ok11
    · cases h; exact ok12
    · cases h; exact ok18
    · cases h; exact ok26
    · cases h; exact ok30
    · cases h; exact ok33
    · cases h; exact ok35
    · cases h; exact ok39
    · cases h; exact ok42
    · cases h; exact ok43
    · cases h; exact ok46
    · cases h; exact ok47
    · cases h; exact ok48
    · cases h; exact ok49
    · cases h; exact ok50
    · cases h; exact ok51
    · cases h; exact ok52
    · cases h; exact ok54
    · cases h; exact ok55
    · cases h; exact ok56
    · cases h; exact ok57
    · cases h; exact ok65
    · cases h; exact ok66
    · cases h; exact ok75
    · cases h; exact ok77
    · cases h; exact ok80
    · cases h; exact ok82
    · cases h; exact ok83
    · cases h; exact ok84
    · cases h; exact ok86
    · cases h; exact ok88
    · cases h; exact ok90
    · cases h; exact ok91
    · cases h; exact ok92
    · cases h; exact ok96
    · cases h; exact ok97
    · cases h; exact ok98
    · cases h; exact ok99
    · cases h; exact ok100
    · cases h; exact ok101
    · cases h; exact ok102
    · cases h; exact ok103
    · cases h; exact ok105
    · cases h; exact ok106
    · cases h; exact ok107
    · cases h; exact ok108
    · cases h; exact ok109
    · cases h; exact ok110
    · cases h; exact ok111
    · cases h; exact ok112
    · cases h; exact ok115
    · cases h; exact ok122
    · cases h; exact ok124
    · cases h; exact ok128
    · cases h; exact ok129
    · cases h; exact ok130
    · cases h; exact ok131
    · cases h; exact ok132
    · cases h; exact ok133
    · cases h; exact ok134
    · cases h; exact ok136
    · cases h; exact ok138
    · cases h; exact ok139
    · cases h; exact ok140
    · cases h; exact ok141
    · cases h; exact ok142
    · cases h; exact ok143
    · cases h; exact ok146
    · cases h; exact ok147
    · cases h; exact ok148
    · cases h; exact ok149
    · cases h; exact ok150
    · cases h; exact ok153
    · cases h; exact ok154
    · cases h; exact ok155
    · cases h; exact ok156
    · cases h; exact ok157
    · cases h; exact ok158
    · cases h; exact ok159
    · cases h; exact ok160
    · cases h; exact ok161
    · cases h; exact ok162
    · cases h; exact ok163
    · cases h; exact ok167
    · cases h; exact ok168
    · cases h; exact ok169
    · cases h; exact ok170
    · cases h; exact ok173
    · cases h; exact ok174
    · cases h; exact ok175
    · cases h
  nat := fun f h args E v bs hn hv => by
    simp only [code, nats] at hn
    split at hn
    · cases hn; exact ⟨⟨Try.f74, Try.func74, by kernel_rfl, by kernel_rfl⟩, natJoin_ok Try.strings_Join_none (fun bk o c xs sep w h1 h2 h3 h4 h5 => Try.strings_Join bk o c xs sep w h1 h2 h3 h4 h5) hv⟩
    · cases hn; exact ⟨⟨Try.f95, Try.func95, by kernel_rfl, by kernel_rfl⟩, C0.natBody_ok (fun a b u n at_ sv A k c w h => bodyK0 a b u n at_ sv A k c w h) (fun a b u n at_ m sv bk o c cols l w h1 h2 h3 h4 h5 h6 h7 h8 => bodyK a b u n at_ m sv bk o c cols l w h1 h2 h3 h4 h5 h6 h7 h8) hv⟩
    · cases hn; exact ⟨⟨Try.f135, Try.func135, by kernel_rfl, by kernel_rfl⟩, natRepeat_ok (fun s c w h1 h2 => Try.strings_Repeat s c w h1 h2) hv⟩
    · cases hn; exact ⟨⟨Try.f145, Try.func145, by kernel_rfl, by kernel_rfl⟩, C0.natRepI_ok (fun k bk o c w h1 h2 h3 => repK k bk o c w h1 h2 h3) hv⟩
    · cases hn
end Go.Ae.C3
