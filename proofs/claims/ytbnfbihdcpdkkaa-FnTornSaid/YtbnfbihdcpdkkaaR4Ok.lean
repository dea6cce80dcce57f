/- The program's functions are the evaluator's. -/
import Derived.Test.YtbnfbihdcpdkkaaR4Code
import Derived.Test.YtbnfbihdcpdkkaaProg
import Derived.KernelRfl
namespace Go.Ae.R4
open Go.Proofs
set_option linter.unusedSimpArgs false

theorem ok3 : ∃ fn, Try.prog.funcs[3]? = some fn ∧ FOk Try.prog md fn F3 ∧ (fn.name == "runtime.NumGoroutine") = false :=
  ⟨Try.f3, Try.func3, ⟨⟨_, rfl, .seq (.plain (by kernel_rfl)) (.seq (.seq (.plain (by kernel_rfl)) (.cond (by kernel_rfl) (.seq (.plain (by kernel_rfl)) (.ret)) (.skip))) (.seq (.plain (by kernel_rfl)) (.seq (.plain (by kernel_rfl)) (.seq (.seq (.plain (by kernel_rfl)) (.cond (by kernel_rfl) (.seq (.plain (by kernel_rfl)) (.ret)) (.skip))) (.seq (.plain (by kernel_rfl)) (.seq (.seq (.plain (by kernel_rfl)) (.cond (by kernel_rfl) (.seq (.plain (by kernel_rfl)) (.ret)) (.skip))) (.seq (.seq (.plain (by kernel_rfl)) (.block (.loop (.seq (.seq (.plain (by kernel_rfl)) (.cond (by kernel_rfl) (.skip) (.exit))) (.seq (.block (.seq (.plain (by kernel_rfl)) (.block (.loop (.seq (.seq (.plain (by kernel_rfl)) (.cond (by kernel_rfl) (.skip) (.exit))) (.seq (.block (.seq (.plain (by kernel_rfl)) (.seq (.draw (b := [0, 1, 0, 7, 15, 31, 0, 64, 0, 448, 960, 1984, 4095, 8191, 16383, 16383, 49151, 16383, 245759, 507903, 16383, 2080767, 16383, 4210687, 16383, 29376511, 62930943, 16383, 264257535, 536854527, 1073741823, 2147483647]) (by unfold cIxs; kernel_rfl) (by kernel_rfl) (by kernel_rfl) (by kernel_rfl)) (.cond (by kernel_rfl) (.seq (.plain (by kernel_rfl)) (.ret)) (.skip))))) (.plain (by kernel_rfl)))))))) (.plain (by kernel_rfl))))))) (.seq (.plain (by kernel_rfl)) (.ret)))))))))⟩, by kernel_rfl, rfl, by decide⟩, by kernel_rfl⟩
theorem ok4 : ∃ fn, Try.prog.funcs[4]? = some fn ∧ FOk Try.prog md fn F4 ∧ (fn.name == "runtime.NumGoroutine") = false :=
  ⟨Try.f4, Try.func4, ⟨⟨_, rfl, .seq (.plain (by kernel_rfl)) (.seq (.seq (.plain (by kernel_rfl)) (.cond (by kernel_rfl) (.seq (.plain (by kernel_rfl)) (.ret)) (.skip))) (.seq (.plain (by kernel_rfl)) (.seq (.seq (.plain (by kernel_rfl)) (.cond (by kernel_rfl) (.seq (.plain (by kernel_rfl)) (.ret)) (.skip))) (.seq (.plain (by kernel_rfl)) (.seq (.plain (by kernel_rfl)) (.seq (.seq (.plain (by kernel_rfl)) (.cond (by kernel_rfl) (.seq (.plain (by kernel_rfl)) (.ret)) (.skip))) (.seq (.seq (.plain (by kernel_rfl)) (.cond (by kernel_rfl) (.seq (.plain (by kernel_rfl)) (.ret)) (.skip))) (.seq (.plain (by kernel_rfl)) (.seq (.plain (by kernel_rfl)) (.seq (.seq (.plain (by kernel_rfl)) (.cond (by kernel_rfl) (.seq (.plain (by kernel_rfl)) (.ret)) (.skip))) (.seq (.seq (.plain (by kernel_rfl)) (.block (.loop (.seq (.seq (.plain (by kernel_rfl)) (.cond (by kernel_rfl) (.skip) (.exit))) (.seq (.block (.seq (.draw (b := [0, 0, 3, 7, 15, 31, 15, 127, 255, 15, 527, 15, 3599, 7695, 16383, 32767]) (by unfold cIxs; kernel_rfl) (by kernel_rfl) (by kernel_rfl) (by kernel_rfl)) (.cond (by kernel_rfl) (.seq (.plain (by kernel_rfl)) (.ret)) (.skip)))) (.plain (by kernel_rfl))))))) (.seq (.draw (b := [0, 1, 0, 7, 15, 0, 0, 96, 0, 256, 0, 1792, 3840, 0, 16128, 32736, 65535, 131071]) (by unfold cIxs; kernel_rfl) (by kernel_rfl) (by kernel_rfl) (by kernel_rfl)) (.ret)))))))))))))⟩, by kernel_rfl, rfl, by decide⟩, by kernel_rfl⟩
theorem ok8 : ∃ fn, Try.prog.funcs[8]? = some fn ∧ FOk Try.prog md fn F8 ∧ (fn.name == "runtime.NumGoroutine") = false :=
  ⟨Try.f8, Try.func8, ⟨⟨_, rfl, .seq (.plain (by kernel_rfl)) (.seq (.plain (by kernel_rfl)) (.ret))⟩, by kernel_rfl, rfl, by decide⟩, by kernel_rfl⟩
theorem ok9 : ∃ fn, Try.prog.funcs[9]? = some fn ∧ FOk Try.prog md fn F9 ∧ (fn.name == "runtime.NumGoroutine") = false :=
  ⟨Try.f9, Try.func9, ⟨⟨_, rfl, .seq (.plain (by kernel_rfl)) (.seq (.plain (by kernel_rfl)) (.seq (.plain (by kernel_rfl)) (.seq (.plain (by kernel_rfl)) (.ret))))⟩, by kernel_rfl, rfl, by decide⟩, by kernel_rfl⟩
theorem ok10 : ∃ fn, Try.prog.funcs[10]? = some fn ∧ FOk Try.prog md fn F10 ∧ (fn.name == "runtime.NumGoroutine") = false :=
  ⟨Try.f10, Try.func10, ⟨⟨_, rfl, .seq (.plain (by kernel_rfl)) (.seq (.block (.seq (.plain (by kernel_rfl)) (.cond (by kernel_rfl) (.seq (.plain (by kernel_rfl)) (.ret)) (.seq (.plain (by kernel_rfl)) (.cond (by kernel_rfl) (.seq (.plain (by kernel_rfl)) (.ret)) (.skip)))))) (.seq (.plain (by kernel_rfl)) (.ret)))⟩, by kernel_rfl, rfl, by decide⟩, by kernel_rfl⟩
theorem ok11 : ∃ fn, Try.prog.funcs[11]? = some fn ∧ FOk Try.prog md fn F11 ∧ (fn.name == "runtime.NumGoroutine") = false :=
  ⟨Try.f11, Try.func11, ⟨⟨_, rfl, .seq (.plain (by kernel_rfl)) (.seq (.seq (.plain (by kernel_rfl)) (.cond (by kernel_rfl) (.seq (.plain (by kernel_rfl)) (.ret)) (.skip))) (.seq (.seq (.plain (by kernel_rfl)) (.block (.loop (.seq (.seq (.plain (by kernel_rfl)) (.cond (by kernel_rfl) (.skip) (.exit))) (.seq (.block (.seq (.draw (b := [0, 0, 3, 7, 0, 0, 48, 112, 255]) (by unfold cIxs; kernel_rfl) (by kernel_rfl) (by kernel_rfl) (by kernel_rfl)) (.cond (by kernel_rfl) (.seq (.plain (by kernel_rfl)) (.ret)) (.skip)))) (.plain (by kernel_rfl))))))) (.seq (.plain (by kernel_rfl)) (.ret))))⟩, by kernel_rfl, rfl, by decide⟩, by kernel_rfl⟩
theorem ok12 : ∃ fn, Try.prog.funcs[12]? = some fn ∧ FOk Try.prog md fn F12 ∧ (fn.name == "runtime.NumGoroutine") = false :=
  ⟨Try.f12, Try.func12, ⟨⟨_, rfl, .seq (.plain (by kernel_rfl)) (.seq (.plain (by kernel_rfl)) (.seq (.plain (by kernel_rfl)) (.seq (.plain (by kernel_rfl)) (.seq (.seq (.plain (by kernel_rfl)) (.cond (by kernel_rfl) (.plain (by kernel_rfl)) (.skip))) (.seq (.plain (by kernel_rfl)) (.ret))))))⟩, by kernel_rfl, rfl, by decide⟩, by kernel_rfl⟩
theorem ok13 : ∃ fn, Try.prog.funcs[13]? = some fn ∧ FOk Try.prog md fn F13 ∧ (fn.name == "runtime.NumGoroutine") = false :=
  ⟨Try.f13, Try.func13, ⟨⟨_, rfl, .seq (.plain (by kernel_rfl)) (.seq (.plain (by kernel_rfl)) (.seq (.seq (.plain (by kernel_rfl)) (.cond (by kernel_rfl) (.seq (.plain (by kernel_rfl)) (.ret)) (.skip))) (.seq (.seq (.plain (by kernel_rfl)) (.block (.loop (.seq (.seq (.plain (by kernel_rfl)) (.cond (by kernel_rfl) (.skip) (.exit))) (.seq (.block (.seq (.plain (by kernel_rfl)) (.cond (by kernel_rfl) (.seq (.plain (by kernel_rfl)) (.ret)) (.skip)))) (.plain (by kernel_rfl))))))) (.seq (.seq (.plain (by kernel_rfl)) (.block (.loop (.seq (.seq (.plain (by kernel_rfl)) (.cond (by kernel_rfl) (.skip) (.exit))) (.seq (.block (.seq (.plain (by kernel_rfl)) (.cond (by kernel_rfl) (.seq (.plain (by kernel_rfl)) (.ret)) (.skip)))) (.plain (by kernel_rfl))))))) (.seq (.plain (by kernel_rfl)) (.ret))))))⟩, by kernel_rfl, rfl, by decide⟩, by kernel_rfl⟩
theorem ok14 : ∃ fn, Try.prog.funcs[14]? = some fn ∧ FOk Try.prog md fn F14 ∧ (fn.name == "runtime.NumGoroutine") = false :=
  ⟨Try.f14, Try.func14, ⟨⟨_, rfl, .seq (.plain (by kernel_rfl)) (.seq (.seq (.plain (by kernel_rfl)) (.cond (by kernel_rfl) (.seq (.plain (by kernel_rfl)) (.ret)) (.skip))) (.seq (.plain (by kernel_rfl)) (.ret)))⟩, by kernel_rfl, rfl, by decide⟩, by kernel_rfl⟩
theorem ok15 : ∃ fn, Try.prog.funcs[15]? = some fn ∧ FOk Try.prog md fn F15 ∧ (fn.name == "runtime.NumGoroutine") = false :=
  ⟨Try.f15, Try.func15, ⟨⟨_, rfl, .seq (.plain (by kernel_rfl)) (.seq (.block (.seq (.plain (by kernel_rfl)) (.cond (by kernel_rfl) (.seq (.plain (by kernel_rfl)) (.ret)) (.seq (.plain (by kernel_rfl)) (.cond (by kernel_rfl) (.seq (.plain (by kernel_rfl)) (.ret)) (.seq (.plain (by kernel_rfl)) (.cond (by kernel_rfl) (.seq (.plain (by kernel_rfl)) (.ret)) (.skip)))))))) (.seq (.plain (by kernel_rfl)) (.ret)))⟩, by kernel_rfl, rfl, by decide⟩, by kernel_rfl⟩
theorem ok16 : ∃ fn, Try.prog.funcs[16]? = some fn ∧ FOk Try.prog md fn F16 ∧ (fn.name == "runtime.NumGoroutine") = false :=
  ⟨Try.f16, Try.func16, ⟨⟨_, rfl, .seq (.plain (by kernel_rfl)) (.seq (.seq (.plain (by kernel_rfl)) (.cond (by kernel_rfl) (.seq (.plain (by kernel_rfl)) (.ret)) (.skip))) (.seq (.seq (.plain (by kernel_rfl)) (.cond (by kernel_rfl) (.seq (.plain (by kernel_rfl)) (.ret)) (.skip))) (.seq (.plain (by kernel_rfl)) (.ret))))⟩, by kernel_rfl, rfl, by decide⟩, by kernel_rfl⟩
theorem ok17 : ∃ fn, Try.prog.funcs[17]? = some fn ∧ FOk Try.prog md fn F17 ∧ (fn.name == "runtime.NumGoroutine") = false :=
  ⟨Try.f17, Try.func17, ⟨⟨_, rfl, .seq (.plain (by kernel_rfl)) (.seq (.block (.seq (.plain (by kernel_rfl)) (.cond (by kernel_rfl) (.seq (.plain (by kernel_rfl)) (.ret)) (.seq (.plain (by kernel_rfl)) (.cond (by kernel_rfl) (.seq (.plain (by kernel_rfl)) (.ret)) (.skip)))))) (.seq (.plain (by kernel_rfl)) (.ret)))⟩, by kernel_rfl, rfl, by decide⟩, by kernel_rfl⟩
theorem ok31 : ∃ fn, Try.prog.funcs[31]? = some fn ∧ FOk Try.prog md fn F31 ∧ (fn.name == "runtime.NumGoroutine") = false :=
  ⟨Try.f31, Try.func31, ⟨⟨_, rfl, .seq (.plain (by kernel_rfl)) (.seq (.plain (by kernel_rfl)) (.ret))⟩, by kernel_rfl, rfl, by decide⟩, by kernel_rfl⟩
theorem ok32 : ∃ fn, Try.prog.funcs[32]? = some fn ∧ FOk Try.prog md fn F32 ∧ (fn.name == "runtime.NumGoroutine") = false :=
  ⟨Try.f32, Try.func32, ⟨⟨_, rfl, .seq (.plain (by kernel_rfl)) (.seq (.seq (.plain (by kernel_rfl)) (.cond (by kernel_rfl) (.seq (.plain (by kernel_rfl)) (.ret)) (.skip))) (.seq (.plain (by kernel_rfl)) (.seq (.seq (.plain (by kernel_rfl)) (.cond (by kernel_rfl) (.plain (by kernel_rfl)) (.skip))) (.seq (.plain (by kernel_rfl)) (.ret)))))⟩, by kernel_rfl, rfl, by decide⟩, by kernel_rfl⟩
theorem ok33 : ∃ fn, Try.prog.funcs[33]? = some fn ∧ FOk Try.prog md fn F33 ∧ (fn.name == "runtime.NumGoroutine") = false :=
  ⟨Try.f33, Try.func33, ⟨⟨_, rfl, .seq (.plain (by kernel_rfl)) (.seq (.plain (by kernel_rfl)) (.seq (.plain (by kernel_rfl)) (.seq (.seq (.plain (by kernel_rfl)) (.block (.loop (.seq (.plain (by kernel_rfl)) (.seq (.cond (by kernel_rfl) (.skip) (.exit)) (.seq (.block (.seq (.plain (by kernel_rfl)) (.draw (b := [0, 1, 0, 0, 8, 31, 63]) (by unfold cIxs; kernel_rfl) (by kernel_rfl) (by kernel_rfl) (by kernel_rfl)))) (.plain (by kernel_rfl)))))))) (.seq (.seq (.plain (by kernel_rfl)) (.block (.loop (.seq (.seq (.plain (by kernel_rfl)) (.cond (by kernel_rfl) (.skip) (.exit))) (.seq (.block (.draw (b := [0, 1, 0, 0, 12, 0, 60, 124, 252, 511, 1023, 2047]) (by unfold cIxs; kernel_rfl) (by kernel_rfl) (by kernel_rfl) (by kernel_rfl))) (.plain (by kernel_rfl))))))) (.seq (.seq (.plain (by kernel_rfl)) (.block (.seq (.plain (by kernel_rfl)) (.cond (by kernel_rfl) (.draw (b := [0, 1, 0, 4, 12, 0, 44, 0, 236, 492, 1020, 2044, 4095, 8191, 16383]) (by unfold cIxs; kernel_rfl) (by kernel_rfl) (by kernel_rfl) (by kernel_rfl)) (.seq (.plain (by kernel_rfl)) (.cond (by kernel_rfl) (.draw (b := [0, 1, 0, 4, 12, 28, 60, 127, 255]) (by unfold cIxs; kernel_rfl) (by kernel_rfl) (by kernel_rfl) (by kernel_rfl)) (.seq (.plain (by kernel_rfl)) (.cond (by kernel_rfl) (.plain (by kernel_rfl)) (.seq (.plain (by kernel_rfl)) (.cond (by kernel_rfl) (.block (.loop (.seq (.seq (.draw (b := [0, 1, 3, 0, 8, 24, 63]) (by unfold cIxs; kernel_rfl) (by kernel_rfl) (by kernel_rfl) (by kernel_rfl)) (.cond (by kernel_rfl) (.skip) (.exit))) (.block (.draw (b := [0, 1, 0, 4, 12, 28, 60, 124, 255, 511, 1023]) (by unfold cIxs; kernel_rfl) (by kernel_rfl) (by kernel_rfl) (by kernel_rfl)))))) (.skip))))))))))) (.seq (.plain (by kernel_rfl)) (.ret)))))))⟩, by kernel_rfl, rfl, by decide⟩, by kernel_rfl⟩
theorem ok34 : ∃ fn, Try.prog.funcs[34]? = some fn ∧ FOk Try.prog md fn F34 ∧ (fn.name == "runtime.NumGoroutine") = false :=
  ⟨Try.f34, Try.func34, ⟨⟨_, rfl, .seq (.plain (by kernel_rfl)) (.seq (.seq (.plain (by kernel_rfl)) (.cond (by kernel_rfl) (.seq (.plain (by kernel_rfl)) (.ret)) (.skip))) (.seq (.seq (.plain (by kernel_rfl)) (.block (.loop (.seq (.plain (by kernel_rfl)) (.seq (.cond (by kernel_rfl) (.skip) (.exit)) (.seq (.block (.seq (.plain (by kernel_rfl)) (.seq (.plain (by kernel_rfl)) (.cond (by kernel_rfl) (.seq (.plain (by kernel_rfl)) (.ret)) (.skip))))) (.plain (by kernel_rfl)))))))) (.seq (.plain (by kernel_rfl)) (.ret))))⟩, by kernel_rfl, rfl, by decide⟩, by kernel_rfl⟩
theorem ok35 : ∃ fn, Try.prog.funcs[35]? = some fn ∧ FOk Try.prog md fn F35 ∧ (fn.name == "runtime.NumGoroutine") = false :=
  ⟨Try.f35, Try.func35, ⟨⟨_, rfl, .seq (.plain (by kernel_rfl)) (.seq (.plain (by kernel_rfl)) (.ret))⟩, by kernel_rfl, rfl, by decide⟩, by kernel_rfl⟩
theorem ok36 : ∃ fn, Try.prog.funcs[36]? = some fn ∧ FOk Try.prog md fn F36 ∧ (fn.name == "runtime.NumGoroutine") = false :=
  ⟨Try.f36, Try.func36, ⟨⟨_, rfl, .seq (.plain (by kernel_rfl)) (.seq (.plain (by kernel_rfl)) (.seq (.plain (by kernel_rfl)) (.seq (.plain (by kernel_rfl)) (.seq (.plain (by kernel_rfl)) (.seq (.plain (by kernel_rfl)) (.ret))))))⟩, by kernel_rfl, rfl, by decide⟩, by kernel_rfl⟩
theorem ok37 : ∃ fn, Try.prog.funcs[37]? = some fn ∧ FOk Try.prog md fn F37 ∧ (fn.name == "runtime.NumGoroutine") = false :=
  ⟨Try.f37, Try.func37, ⟨⟨_, rfl, .seq (.plain (by kernel_rfl)) (.seq (.plain (by kernel_rfl)) (.seq (.seq (.plain (by kernel_rfl)) (.block (.loop (.seq (.seq (.plain (by kernel_rfl)) (.cond (by kernel_rfl) (.skip) (.exit))) (.seq (.block (.plain (by kernel_rfl))) (.plain (by kernel_rfl))))))) (.seq (.plain (by kernel_rfl)) (.ret))))⟩, by kernel_rfl, rfl, by decide⟩, by kernel_rfl⟩
theorem ok38 : ∃ fn, Try.prog.funcs[38]? = some fn ∧ FOk Try.prog md fn F38 ∧ (fn.name == "runtime.NumGoroutine") = false :=
  ⟨Try.f38, Try.func38, ⟨⟨_, rfl, .seq (.plain (by kernel_rfl)) (.seq (.plain (by kernel_rfl)) (.ret))⟩, by kernel_rfl, rfl, by decide⟩, by kernel_rfl⟩
theorem ok39 : ∃ fn, Try.prog.funcs[39]? = some fn ∧ FOk Try.prog md fn F39 ∧ (fn.name == "runtime.NumGoroutine") = false :=
  ⟨Try.f39, Try.func39, ⟨⟨_, rfl, .seq (.plain (by kernel_rfl)) (.seq (.plain (by kernel_rfl)) (.ret))⟩, by kernel_rfl, rfl, by decide⟩, by kernel_rfl⟩
theorem ok40 : ∃ fn, Try.prog.funcs[40]? = some fn ∧ FOk Try.prog md fn F40 ∧ (fn.name == "runtime.NumGoroutine") = false :=
  ⟨Try.f40, Try.func40, ⟨⟨_, rfl, .seq (.plain (by kernel_rfl)) (.seq (.plain (by kernel_rfl)) (.seq (.seq (.plain (by kernel_rfl)) (.block (.loop (.seq (.seq (.plain (by kernel_rfl)) (.cond (by kernel_rfl) (.skip) (.exit))) (.seq (.block (.draw (b := [0, 1, 0, 4, 0, 28, 60, 124, 0, 256, 0, 1792, 3840, 7936, 16383, 32767]) (by unfold cIxs; kernel_rfl) (by kernel_rfl) (by kernel_rfl) (by kernel_rfl))) (.plain (by kernel_rfl))))))) (.seq (.plain (by kernel_rfl)) (.ret))))⟩, by kernel_rfl, rfl, by decide⟩, by kernel_rfl⟩
theorem ok41 : ∃ fn, Try.prog.funcs[41]? = some fn ∧ FOk Try.prog md fn F41 ∧ (fn.name == "runtime.NumGoroutine") = false :=
  ⟨Try.f41, Try.func41, ⟨⟨_, rfl, .seq (.plain (by kernel_rfl)) (.seq (.plain (by kernel_rfl)) (.ret))⟩, by kernel_rfl, rfl, by decide⟩, by kernel_rfl⟩
theorem ok42 : ∃ fn, Try.prog.funcs[42]? = some fn ∧ FOk Try.prog md fn F42 ∧ (fn.name == "runtime.NumGoroutine") = false :=
  ⟨Try.f42, Try.func42, ⟨⟨_, rfl, .seq (.plain (by kernel_rfl)) (.seq (.plain (by kernel_rfl)) (.ret))⟩, by kernel_rfl, rfl, by decide⟩, by kernel_rfl⟩
theorem ok43 : ∃ fn, Try.prog.funcs[43]? = some fn ∧ FOk Try.prog md fn F43 ∧ (fn.name == "runtime.NumGoroutine") = false :=
  ⟨Try.f43, Try.func43, ⟨⟨_, rfl, .seq (.plain (by kernel_rfl)) (.seq (.plain (by kernel_rfl)) (.seq (.seq (.plain (by kernel_rfl)) (.block (.loop (.seq (.plain (by kernel_rfl)) (.seq (.cond (by kernel_rfl) (.skip) (.exit)) (.seq (.block (.seq (.plain (by kernel_rfl)) (.plain (by kernel_rfl)))) (.plain (by kernel_rfl)))))))) (.seq (.plain (by kernel_rfl)) (.ret))))⟩, by kernel_rfl, rfl, by decide⟩, by kernel_rfl⟩
theorem ok44 : ∃ fn, Try.prog.funcs[44]? = some fn ∧ FOk Try.prog md fn F44 ∧ (fn.name == "runtime.NumGoroutine") = false :=
  ⟨Try.f44, Try.func44, ⟨⟨_, rfl, .seq (.plain (by kernel_rfl)) (.seq (.plain (by kernel_rfl)) (.ret))⟩, by kernel_rfl, rfl, by decide⟩, by kernel_rfl⟩
theorem ok45 : ∃ fn, Try.prog.funcs[45]? = some fn ∧ FOk Try.prog md fn F45 ∧ (fn.name == "runtime.NumGoroutine") = false :=
  ⟨Try.f45, Try.func45, ⟨⟨_, rfl, .seq (.plain (by kernel_rfl)) (.seq (.plain (by kernel_rfl)) (.seq (.seq (.plain (by kernel_rfl)) (.block (.loop (.seq (.plain (by kernel_rfl)) (.seq (.cond (by kernel_rfl) (.skip) (.exit)) (.seq (.block (.seq (.plain (by kernel_rfl)) (.seq (.plain (by kernel_rfl)) (.seq (.plain (by kernel_rfl)) (.seq (.seq (.plain (by kernel_rfl)) (.cond (by kernel_rfl) (.plain (by kernel_rfl)) (.skip))) (.draw (b := [0, 0, 2, 0, 8, 0, 56, 0, 0, 256, 896, 1920, 0, 8064, 16376, 32767, 65535]) (by unfold cIxs; kernel_rfl) (by kernel_rfl) (by kernel_rfl) (by kernel_rfl))))))) (.plain (by kernel_rfl)))))))) (.seq (.plain (by kernel_rfl)) (.ret))))⟩, by kernel_rfl, rfl, by decide⟩, by kernel_rfl⟩
theorem ok58 : ∃ fn, Try.prog.funcs[58]? = some fn ∧ FOk Try.prog md fn F58 ∧ (fn.name == "runtime.NumGoroutine") = false :=
  ⟨Try.f58, Try.func58, ⟨⟨_, rfl, .seq (.plain (by kernel_rfl)) (.seq (.plain (by kernel_rfl)) (.seq (.seq (.draw (b := [0, 1, 3, 7, 0, 16, 48, 112, 240, 511]) (by unfold cIxs; kernel_rfl) (by kernel_rfl) (by kernel_rfl) (by kernel_rfl)) (.cond (by kernel_rfl) (.draw (b := [0, 1, 3, 7, 0, 16, 48, 112, 255, 511, 1023, 2047]) (by unfold cIxs; kernel_rfl) (by kernel_rfl) (by kernel_rfl) (by kernel_rfl)) (.skip))) (.seq (.plain (by kernel_rfl)) (.seq (.plain (by kernel_rfl)) (.seq (.seq (.draw (b := [0, 1, 3, 7, 0, 16, 48, 112, 240, 511]) (by unfold cIxs; kernel_rfl) (by kernel_rfl) (by kernel_rfl) (by kernel_rfl)) (.cond (by kernel_rfl) (.seq (.plain (by kernel_rfl)) (.ret)) (.skip))) (.seq (.plain (by kernel_rfl)) (.ret)))))))⟩, by kernel_rfl, rfl, by decide⟩, by kernel_rfl⟩
theorem ok59 : ∃ fn, Try.prog.funcs[59]? = some fn ∧ FOk Try.prog md fn F59 ∧ (fn.name == "runtime.NumGoroutine") = false :=
  ⟨Try.f59, Try.func59, ⟨⟨_, rfl, .seq (.plain (by kernel_rfl)) (.seq (.seq (.plain (by kernel_rfl)) (.cond (by kernel_rfl) (.seq (.plain (by kernel_rfl)) (.ret)) (.skip))) (.seq (.plain (by kernel_rfl)) (.seq (.plain (by kernel_rfl)) (.seq (.seq (.plain (by kernel_rfl)) (.block (.loop (.seq (.seq (.plain (by kernel_rfl)) (.cond (by kernel_rfl) (.skip) (.exit))) (.seq (.block (.plain (by kernel_rfl))) (.plain (by kernel_rfl))))))) (.seq (.plain (by kernel_rfl)) (.ret))))))⟩, by kernel_rfl, rfl, by decide⟩, by kernel_rfl⟩
theorem ok60 : ∃ fn, Try.prog.funcs[60]? = some fn ∧ FOk Try.prog md fn F60 ∧ (fn.name == "runtime.NumGoroutine") = false :=
  ⟨Try.f60, Try.func60, ⟨⟨_, rfl, .seq (.plain (by kernel_rfl)) (.seq (.plain (by kernel_rfl)) (.ret))⟩, by kernel_rfl, rfl, by decide⟩, by kernel_rfl⟩
theorem ok61 : ∃ fn, Try.prog.funcs[61]? = some fn ∧ FOk Try.prog md fn F61 ∧ (fn.name == "runtime.NumGoroutine") = false :=
  ⟨Try.f61, Try.func61, ⟨⟨_, rfl, .seq (.plain (by kernel_rfl)) (.seq (.plain (by kernel_rfl)) (.ret))⟩, by kernel_rfl, rfl, by decide⟩, by kernel_rfl⟩
theorem ok62 : ∃ fn, Try.prog.funcs[62]? = some fn ∧ FOk Try.prog md fn F62 ∧ (fn.name == "runtime.NumGoroutine") = false :=
  ⟨Try.f62, Try.func62, ⟨⟨_, rfl, .seq (.plain (by kernel_rfl)) (.seq (.plain (by kernel_rfl)) (.ret))⟩, by kernel_rfl, rfl, by decide⟩, by kernel_rfl⟩
theorem ok63 : ∃ fn, Try.prog.funcs[63]? = some fn ∧ FOk Try.prog md fn F63 ∧ (fn.name == "runtime.NumGoroutine") = false :=
  ⟨Try.f63, Try.func63, ⟨⟨_, rfl, .seq (.plain (by kernel_rfl)) (.seq (.draw (b := [0, 1, 3, 0, 8, 31, 63, 127]) (by unfold cIxs; kernel_rfl) (by kernel_rfl) (by kernel_rfl) (by kernel_rfl)) (.ret))⟩, by kernel_rfl, rfl, by decide⟩, by kernel_rfl⟩
theorem ok64 : ∃ fn, Try.prog.funcs[64]? = some fn ∧ FOk Try.prog md fn F64 ∧ (fn.name == "runtime.NumGoroutine") = false :=
  ⟨Try.f64, Try.func64, ⟨⟨_, rfl, .seq (.plain (by kernel_rfl)) (.seq (.seq (.plain (by kernel_rfl)) (.block (.loop (.seq (.seq (.plain (by kernel_rfl)) (.cond (by kernel_rfl) (.skip) (.exit))) (.seq (.block (.seq (.draw (b := [0, 0, 3, 7, 0, 0, 32, 112, 240, 511]) (by unfold cIxs; kernel_rfl) (by kernel_rfl) (by kernel_rfl) (by kernel_rfl)) (.cond (by kernel_rfl) (.seq (.plain (by kernel_rfl)) (.ret)) (.skip)))) (.plain (by kernel_rfl))))))) (.seq (.plain (by kernel_rfl)) (.ret)))⟩, by kernel_rfl, rfl, by decide⟩, by kernel_rfl⟩
theorem ok65 : ∃ fn, Try.prog.funcs[65]? = some fn ∧ FOk Try.prog md fn F65 ∧ (fn.name == "runtime.NumGoroutine") = false :=
  ⟨Try.f65, Try.func65, ⟨⟨_, rfl, .seq (.plain (by kernel_rfl)) (.seq (.plain (by kernel_rfl)) (.ret))⟩, by kernel_rfl, rfl, by decide⟩, by kernel_rfl⟩
theorem ok66 : ∃ fn, Try.prog.funcs[66]? = some fn ∧ FOk Try.prog md fn F66 ∧ (fn.name == "runtime.NumGoroutine") = false :=
  ⟨Try.f66, Try.func66, ⟨⟨_, rfl, .seq (.plain (by kernel_rfl)) (.seq (.ifnil (e := 9) (by rfl) (by kernel_rfl) (by rfl) (by simp) (by kernel_rfl) (by kernel_rfl) (by rfl) (by rfl) (.seq (.plain (by kernel_rfl)) (.ret)) (.skip)) (.seq (.plain (by kernel_rfl)) (.ret)))⟩, by kernel_rfl, rfl, by decide⟩, by kernel_rfl⟩
theorem ok71 : ∃ fn, Try.prog.funcs[71]? = some fn ∧ FOk Try.prog md fn F71 ∧ (fn.name == "runtime.NumGoroutine") = false :=
  ⟨Try.f71, Try.func71, ⟨⟨_, rfl, .seq (.plain (by kernel_rfl)) (.seq (.seq (.plain (by kernel_rfl)) (.block (.loop (.seq (.plain (by kernel_rfl)) (.seq (.cond (by kernel_rfl) (.skip) (.exit)) (.seq (.block (.seq (.plain (by kernel_rfl)) (.seq (.plain (by kernel_rfl)) (.cond (by kernel_rfl) (.seq (.plain (by kernel_rfl)) (.ret)) (.skip))))) (.plain (by kernel_rfl)))))))) (.seq (.plain (by kernel_rfl)) (.ret)))⟩, by kernel_rfl, rfl, by decide⟩, by kernel_rfl⟩
theorem ok72 : ∃ fn, Try.prog.funcs[72]? = some fn ∧ FOk Try.prog md fn F72 ∧ (fn.name == "runtime.NumGoroutine") = false :=
  ⟨Try.f72, Try.func72, ⟨⟨_, rfl, .seq (.plain (by kernel_rfl)) (.seq (.ifnil (e := 63) (by rfl) (by kernel_rfl) (by rfl) (by simp) (by kernel_rfl) (by kernel_rfl) (by rfl) (by rfl) (.seq (.plain (by kernel_rfl)) (.ret)) (.skip)) (.seq (.plain (by kernel_rfl)) (.ret)))⟩, by kernel_rfl, rfl, by decide⟩, by kernel_rfl⟩
theorem ok73 : ∃ fn, Try.prog.funcs[73]? = some fn ∧ FOk Try.prog md fn F73 ∧ (fn.name == "runtime.NumGoroutine") = false :=
  ⟨Try.f73, Try.func73, ⟨⟨_, rfl, .seq (.plain (by kernel_rfl)) (.seq (.plain (by kernel_rfl)) (.ret))⟩, by kernel_rfl, rfl, by decide⟩, by kernel_rfl⟩
theorem ok74 : ∃ fn, Try.prog.funcs[74]? = some fn ∧ FOk Try.prog md fn F74 ∧ (fn.name == "runtime.NumGoroutine") = false :=
  ⟨Try.f74, Try.func74, ⟨⟨_, rfl, .seq (.plain (by kernel_rfl)) (.seq (.plain (by kernel_rfl)) (.ret))⟩, by kernel_rfl, rfl, by decide⟩, by kernel_rfl⟩
theorem ok75 : ∃ fn, Try.prog.funcs[75]? = some fn ∧ FOk Try.prog md fn F75 ∧ (fn.name == "runtime.NumGoroutine") = false :=
  ⟨Try.f75, Try.func75, ⟨⟨_, rfl, .seq (.plain (by kernel_rfl)) (.seq (.seq (.plain (by kernel_rfl)) (.block (.loop (.seq (.plain (by kernel_rfl)) (.seq (.cond (by kernel_rfl) (.skip) (.exit)) (.seq (.block (.seq (.plain (by kernel_rfl)) (.seq (.plain (by kernel_rfl)) (.cond (by kernel_rfl) (.seq (.plain (by kernel_rfl)) (.ret)) (.skip))))) (.plain (by kernel_rfl)))))))) (.seq (.plain (by kernel_rfl)) (.ret)))⟩, by kernel_rfl, rfl, by decide⟩, by kernel_rfl⟩
set_option maxRecDepth 100000 in
theorem progOk : ProgOk Try.prog code where
  fn := fun f F _ h => by
    simp only [code, fns] at h
    split at h
    · cases h; exact ok3
    · cases h; exact ok4
    · cases h; exact ok8
    · cases h; exact ok9
    · cases h; exact ok10
    · cases h; exact ok11
    · cases h; exact ok12
    · cases h; exact ok13
    · cases h; exact ok14
    · cases h; exact ok15
    · cases h; exact ok16
    · cases h; exact ok17
    · cases h; exact ok31
    · cases h; exact ok32
    · cases h; exact ok33
    · cases h; exact ok34
    · cases h; exact ok35
    · cases h; exact ok36
    · cases h; exact ok37
    · cases h; exact ok38
    · cases h; exact ok39
    · cases h; exact ok40
    · cases h; exact ok41
    · cases h; exact ok42
    · cases h; exact ok43
    · cases h; exact ok44
    · cases h; exact ok45
    · cases h; exact ok58
    · cases h; exact ok59
    · cases h; exact ok60
    · cases h; exact ok61
    · cases h; exact ok62
    · cases h; exact ok63
    · cases h; exact ok64
    · cases h; exact ok65
    · cases h; exact ok66
    · cases h; exact ok71
    · cases h; exact ok72
    · cases h; exact ok73
    · cases h; exact ok74
    · cases h; exact ok75
    · cases h
  nat := fun f h args E v bs hn _ => by simp [code] at hn
end Go.Ae.R4
