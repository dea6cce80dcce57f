/- The program's functions are the evaluator's. -/
import Derived.Test.YtnfghcflpnlbiaaC3Code
import Derived.Test.YtnfghcflpnlbiaaProg
import Derived.Test.YtnfghcflpnlbiaaShelf
import Derived.KernelRfl
namespace Go.Ae.C3
open Go.Proofs
set_option linter.unusedSimpArgs false

theorem ok3 : ∃ fn, Try.prog.funcs[3]? = some fn ∧ FOk Try.prog md fn F3 ∧ (fn.name == "runtime.NumGoroutine") = false :=
  ⟨Try.f3, Try.func3, ⟨⟨_, rfl, .seq (.plain (by kernel_rfl)) (.seq (.plain (by kernel_rfl)) (.seq (.plain (by kernel_rfl)) (.seq (.seq (.plain (by kernel_rfl)) (.cond (by kernel_rfl) (.seq (.plain (by kernel_rfl)) (.ret)) (.skip))) (.seq (.plain (by kernel_rfl)) (.seq (.plain (by kernel_rfl)) (.seq (.plain (by kernel_rfl)) (.seq (.seq (.plain (by kernel_rfl)) (.cond (by kernel_rfl) (.seq (.plain (by kernel_rfl)) (.ret)) (.skip))) (.seq (.seq (.plain (by kernel_rfl)) (.cond (by kernel_rfl) (.seq (.plain (by kernel_rfl)) (.ret)) (.skip))) (.seq (.plain (by kernel_rfl)) (.ret))))))))))⟩, by kernel_rfl, rfl, by decide⟩, by kernel_rfl⟩
theorem ok4 : ∃ fn, Try.prog.funcs[4]? = some fn ∧ FOk Try.prog md fn F4 ∧ (fn.name == "runtime.NumGoroutine") = false :=
  ⟨Try.f4, Try.func4, ⟨⟨_, rfl, .seq (.plain (by kernel_rfl)) (.seq (.plain (by kernel_rfl)) (.seq (.plain (by kernel_rfl)) (.seq (.seq (.plain (by kernel_rfl)) (.cond (by kernel_rfl) (.seq (.plain (by kernel_rfl)) (.ret)) (.skip))) (.seq (.plain (by kernel_rfl)) (.seq (.plain (by kernel_rfl)) (.seq (.plain (by kernel_rfl)) (.seq (.seq (.plain (by kernel_rfl)) (.cond (by kernel_rfl) (.seq (.plain (by kernel_rfl)) (.ret)) (.skip))) (.seq (.seq (.plain (by kernel_rfl)) (.cond (by kernel_rfl) (.seq (.plain (by kernel_rfl)) (.ret)) (.skip))) (.seq (.plain (by kernel_rfl)) (.ret))))))))))⟩, by kernel_rfl, rfl, by decide⟩, by kernel_rfl⟩
theorem ok5 : ∃ fn, Try.prog.funcs[5]? = some fn ∧ FOk Try.prog md fn F5 ∧ (fn.name == "runtime.NumGoroutine") = false :=
  ⟨Try.f5, Try.func5, ⟨⟨_, rfl, .seq (.plain (by kernel_rfl)) (.seq (.plain (by kernel_rfl)) (.seq (.plain (by kernel_rfl)) (.seq (.seq (.plain (by kernel_rfl)) (.cond (by kernel_rfl) (.seq (.plain (by kernel_rfl)) (.ret)) (.skip))) (.seq (.plain (by kernel_rfl)) (.seq (.plain (by kernel_rfl)) (.seq (.plain (by kernel_rfl)) (.seq (.seq (.plain (by kernel_rfl)) (.cond (by kernel_rfl) (.seq (.plain (by kernel_rfl)) (.ret)) (.skip))) (.seq (.seq (.plain (by kernel_rfl)) (.cond (by kernel_rfl) (.seq (.plain (by kernel_rfl)) (.ret)) (.skip))) (.seq (.plain (by kernel_rfl)) (.seq (.plain (by kernel_rfl)) (.seq (.seq (.plain (by kernel_rfl)) (.cond (by kernel_rfl) (.seq (.plain (by kernel_rfl)) (.ret)) (.skip))) (.seq (.plain (by kernel_rfl)) (.seq (.plain (by kernel_rfl)) (.seq (.plain (by kernel_rfl)) (.seq (.plain (by kernel_rfl)) (.seq (.seq (.plain (by kernel_rfl)) (.cond (by kernel_rfl) (.seq (.plain (by kernel_rfl)) (.ret)) (.skip))) (.seq (.seq (.plain (by kernel_rfl)) (.cond (by kernel_rfl) (.seq (.plain (by kernel_rfl)) (.ret)) (.skip))) (.seq (.plain (by kernel_rfl)) (.seq (.seq (.plain (by kernel_rfl)) (.cond (by kernel_rfl) (.seq (.plain (by kernel_rfl)) (.ret)) (.skip))) (.seq (.plain (by kernel_rfl)) (.seq (.plain (by kernel_rfl)) (.seq (.seq (.plain (by kernel_rfl)) (.cond (by kernel_rfl) (.seq (.plain (by kernel_rfl)) (.ret)) (.skip))) (.seq (.seq (.plain (by kernel_rfl)) (.cond (by kernel_rfl) (.seq (.plain (by kernel_rfl)) (.ret)) (.skip))) (.seq (.plain (by kernel_rfl)) (.ret)))))))))))))))))))))))))⟩, by kernel_rfl, rfl, by decide⟩, by kernel_rfl⟩
theorem ok6 : ∃ fn, Try.prog.funcs[6]? = some fn ∧ FOk Try.prog md fn F6 ∧ (fn.name == "runtime.NumGoroutine") = false :=
  ⟨Try.f6, Try.func6, ⟨⟨_, rfl, .seq (.plain (by kernel_rfl)) (.seq (.seq (.plain (by kernel_rfl)) (.cond (by kernel_rfl) (.seq (.plain (by kernel_rfl)) (.ret)) (.skip))) (.seq (.plain (by kernel_rfl)) (.seq (.plain (by kernel_rfl)) (.seq (.plain (by kernel_rfl)) (.seq (.draw (b := [0, 1, 0, 0, 8, 24, 60, 127, 255]) (by unfold cIxs; kernel_rfl) (by kernel_rfl) (by kernel_rfl) (by kernel_rfl)) (.seq (.plain (by kernel_rfl)) (.seq (.seq (.plain (by kernel_rfl)) (.cond (by kernel_rfl) (.seq (.plain (by kernel_rfl)) (.ret)) (.skip))) (.seq (.plain (by kernel_rfl)) (.seq (.draw (b := [0, 0, 2, 0, 0, 16, 48, 120, 255, 511, 1023, 1023, 2047, 8191]) (by unfold cIxs; kernel_rfl) (by kernel_rfl) (by kernel_rfl) (by kernel_rfl)) (.seq (.plain (by kernel_rfl)) (.ret)))))))))))⟩, by kernel_rfl, rfl, by decide⟩, by kernel_rfl⟩
theorem ok7 : ∃ fn, Try.prog.funcs[7]? = some fn ∧ FOk Try.prog md fn F7 ∧ (fn.name == "runtime.NumGoroutine") = false :=
  ⟨Try.f7, Try.func7, ⟨⟨_, rfl, .seq (.plain (by kernel_rfl)) (.seq (.seq (.plain (by kernel_rfl)) (.cond (by kernel_rfl) (.seq (.plain (by kernel_rfl)) (.ret)) (.skip))) (.seq (.plain (by kernel_rfl)) (.seq (.plain (by kernel_rfl)) (.seq (.plain (by kernel_rfl)) (.seq (.plain (by kernel_rfl)) (.seq (.plain (by kernel_rfl)) (.seq (.seq (.plain (by kernel_rfl)) (.cond (by kernel_rfl) (.seq (.plain (by kernel_rfl)) (.ret)) (.skip))) (.seq (.seq (.plain (by kernel_rfl)) (.block (.loop (.seq (.seq (.plain (by kernel_rfl)) (.cond (by kernel_rfl) (.skip) (.exit))) (.seq (.block (.seq (.plain (by kernel_rfl)) (.seq (.plain (by kernel_rfl)) (.seq (.plain (by kernel_rfl)) (.cond (by kernel_rfl) (.seq (.plain (by kernel_rfl)) (.ret)) (.skip)))))) (.plain (by kernel_rfl))))))) (.seq (.plain (by kernel_rfl)) (.seq (.seq (.plain (by kernel_rfl)) (.block (.loop (.seq (.seq (.plain (by kernel_rfl)) (.cond (by kernel_rfl) (.skip) (.exit))) (.seq (.block (.plain (by kernel_rfl))) (.plain (by kernel_rfl))))))) (.seq (.plain (by kernel_rfl)) (.seq (.seq (.plain (by kernel_rfl)) (.cond (by kernel_rfl) (.seq (.plain (by kernel_rfl)) (.ret)) (.skip))) (.seq (.draw (b := [0, 1, 0, 0, 8, 28, 63, 127]) (by unfold cIxs; kernel_rfl) (by kernel_rfl) (by kernel_rfl) (by kernel_rfl)) (.seq (.plain (by kernel_rfl)) (.seq (.plain (by kernel_rfl)) (.seq (.plain (by kernel_rfl)) (.ret)))))))))))))))))⟩, by kernel_rfl, rfl, by decide⟩, by kernel_rfl⟩
theorem ok16 : ∃ fn, Try.prog.funcs[16]? = some fn ∧ FOk Try.prog md fn F16 ∧ (fn.name == "runtime.NumGoroutine") = false :=
  ⟨Try.f16, Try.func16, ⟨⟨_, rfl, .seq (.plain (by kernel_rfl)) (.seq (.plain (by kernel_rfl)) (.seq (.seq (.plain (by kernel_rfl)) (.cond (by kernel_rfl) (.seq (.plain (by kernel_rfl)) (.ret)) (.skip))) (.seq (.seq (.plain (by kernel_rfl)) (.block (.loop (.seq (.seq (.plain (by kernel_rfl)) (.cond (by kernel_rfl) (.skip) (.exit))) (.seq (.block (.seq (.plain (by kernel_rfl)) (.seq (.plain (by kernel_rfl)) (.cond (by kernel_rfl) (.seq (.plain (by kernel_rfl)) (.ret)) (.skip))))) (.plain (by kernel_rfl))))))) (.seq (.plain (by kernel_rfl)) (.ret)))))⟩, by kernel_rfl, rfl, by decide⟩, by kernel_rfl⟩
theorem ok17 : ∃ fn, Try.prog.funcs[17]? = some fn ∧ FOk Try.prog md fn F17 ∧ (fn.name == "runtime.NumGoroutine") = false :=
  ⟨Try.f17, Try.func17, ⟨⟨_, rfl, .seq (.plain (by kernel_rfl)) (.seq (.seq (.plain (by kernel_rfl)) (.cond (by kernel_rfl) (.seq (.plain (by kernel_rfl)) (.ret)) (.skip))) (.seq (.seq (.plain (by kernel_rfl)) (.cond (by kernel_rfl) (.seq (.plain (by kernel_rfl)) (.ret)) (.skip))) (.seq (.plain (by kernel_rfl)) (.ret))))⟩, by kernel_rfl, rfl, by decide⟩, by kernel_rfl⟩
theorem ok18 : ∃ fn, Try.prog.funcs[18]? = some fn ∧ FOk Try.prog md fn F18 ∧ (fn.name == "runtime.NumGoroutine") = false :=
  ⟨Try.f18, Try.func18, ⟨⟨_, rfl, .seq (.plain (by kernel_rfl)) (.seq (.plain (by kernel_rfl)) (.seq (.plain (by kernel_rfl)) (.seq (.plain (by kernel_rfl)) (.seq (.plain (by kernel_rfl)) (.ret)))))⟩, by kernel_rfl, rfl, by decide⟩, by kernel_rfl⟩
theorem ok19 : ∃ fn, Try.prog.funcs[19]? = some fn ∧ FOk Try.prog md fn F19 ∧ (fn.name == "runtime.NumGoroutine") = false :=
  ⟨Try.f19, Try.func19, ⟨⟨_, rfl, .seq (.plain (by kernel_rfl)) (.seq (.plain (by kernel_rfl)) (.seq (.seq (.plain (by kernel_rfl)) (.block (.loop (.seq (.seq (.plain (by kernel_rfl)) (.cond (by kernel_rfl) (.skip) (.exit))) (.seq (.block (.plain (by kernel_rfl))) (.plain (by kernel_rfl))))))) (.seq (.plain (by kernel_rfl)) (.ret))))⟩, by kernel_rfl, rfl, by decide⟩, by kernel_rfl⟩
theorem ok20 : ∃ fn, Try.prog.funcs[20]? = some fn ∧ FOk Try.prog md fn F20 ∧ (fn.name == "runtime.NumGoroutine") = false :=
  ⟨Try.f20, Try.func20, ⟨⟨_, rfl, .seq (.plain (by kernel_rfl)) (.seq (.seq (.plain (by kernel_rfl)) (.seq (.plain (by kernel_rfl)) (.cond (by kernel_rfl) (.seq (.plain (by kernel_rfl)) (.ret)) (.skip)))) (.seq (.plain (by kernel_rfl)) (.ret)))⟩, by kernel_rfl, rfl, by decide⟩, by kernel_rfl⟩
theorem ok21 : ∃ fn, Try.prog.funcs[21]? = some fn ∧ FOk Try.prog md fn F21 ∧ (fn.name == "runtime.NumGoroutine") = false :=
  ⟨Try.f21, Try.func21, ⟨⟨_, rfl, .seq (.plain (by kernel_rfl)) (.seq (.seq (.plain (by kernel_rfl)) (.cond (by kernel_rfl) (.seq (.plain (by kernel_rfl)) (.ret)) (.skip))) (.seq (.seq (.plain (by kernel_rfl)) (.block (.loop (.seq (.seq (.plain (by kernel_rfl)) (.cond (by kernel_rfl) (.skip) (.exit))) (.seq (.block (.seq (.draw (b := [0, 0, 3, 7, 0, 0, 48, 112, 255, 511]) (by unfold cIxs; kernel_rfl) (by kernel_rfl) (by kernel_rfl) (by kernel_rfl)) (.cond (by kernel_rfl) (.seq (.plain (by kernel_rfl)) (.ret)) (.skip)))) (.plain (by kernel_rfl))))))) (.seq (.plain (by kernel_rfl)) (.ret))))⟩, by kernel_rfl, rfl, by decide⟩, by kernel_rfl⟩
theorem ok22 : ∃ fn, Try.prog.funcs[22]? = some fn ∧ FOk Try.prog md fn F22 ∧ (fn.name == "runtime.NumGoroutine") = false :=
  ⟨Try.f22, Try.func22, ⟨⟨_, rfl, .seq (.plain (by kernel_rfl)) (.seq (.seq (.plain (by kernel_rfl)) (.cond (by kernel_rfl) (.seq (.plain (by kernel_rfl)) (.ret)) (.skip))) (.seq (.seq (.plain (by kernel_rfl)) (.cond (by kernel_rfl) (.seq (.plain (by kernel_rfl)) (.ret)) (.skip))) (.seq (.seq (.plain (by kernel_rfl)) (.cond (by kernel_rfl) (.seq (.plain (by kernel_rfl)) (.ret)) (.skip))) (.seq (.plain (by kernel_rfl)) (.ret)))))⟩, by kernel_rfl, rfl, by decide⟩, by kernel_rfl⟩
theorem ok23 : ∃ fn, Try.prog.funcs[23]? = some fn ∧ FOk Try.prog md fn F23 ∧ (fn.name == "runtime.NumGoroutine") = false :=
  ⟨Try.f23, Try.func23, ⟨⟨_, rfl, .seq (.plain (by kernel_rfl)) (.seq (.block (.seq (.plain (by kernel_rfl)) (.cond (by kernel_rfl) (.seq (.plain (by kernel_rfl)) (.ret)) (.seq (.plain (by kernel_rfl)) (.cond (by kernel_rfl) (.seq (.plain (by kernel_rfl)) (.ret)) (.seq (.plain (by kernel_rfl)) (.cond (by kernel_rfl) (.seq (.plain (by kernel_rfl)) (.ret)) (.skip)))))))) (.seq (.draw (b := [0, 0, 0, 6, 15, 0, 63, 127, 255, 511]) (by unfold cIxs; kernel_rfl) (by kernel_rfl) (by kernel_rfl) (by kernel_rfl)) (.ret)))⟩, by kernel_rfl, rfl, by decide⟩, by kernel_rfl⟩
theorem ok24 : ∃ fn, Try.prog.funcs[24]? = some fn ∧ FOk Try.prog md fn F24 ∧ (fn.name == "runtime.NumGoroutine") = false :=
  ⟨Try.f24, Try.func24, ⟨⟨_, rfl, .seq (.plain (by kernel_rfl)) (.seq (.seq (.plain (by kernel_rfl)) (.cond (by kernel_rfl) (.seq (.plain (by kernel_rfl)) (.ret)) (.skip))) (.seq (.seq (.plain (by kernel_rfl)) (.cond (by kernel_rfl) (.seq (.plain (by kernel_rfl)) (.ret)) (.skip))) (.seq (.plain (by kernel_rfl)) (.seq (.plain (by kernel_rfl)) (.seq (.seq (.plain (by kernel_rfl)) (.block (.loop (.seq (.seq (.plain (by kernel_rfl)) (.cond (by kernel_rfl) (.skip) (.exit))) (.seq (.block (.seq (.draw (b := [0, 0, 0, 6, 14, 30, 63, 127, 0, 0, 768, 1792, 3840, 8191]) (by unfold cIxs; kernel_rfl) (by kernel_rfl) (by kernel_rfl) (by kernel_rfl)) (.cond (by kernel_rfl) (.plain (by kernel_rfl)) (.skip)))) (.plain (by kernel_rfl))))))) (.seq (.plain (by kernel_rfl)) (.ret)))))))⟩, by kernel_rfl, rfl, by decide⟩, by kernel_rfl⟩
theorem ok25 : ∃ fn, Try.prog.funcs[25]? = some fn ∧ FOk Try.prog md fn F25 ∧ (fn.name == "runtime.NumGoroutine") = false :=
  ⟨Try.f25, Try.func25, ⟨⟨_, rfl, .seq (.plain (by kernel_rfl)) (.seq (.seq (.plain (by kernel_rfl)) (.seq (.plain (by kernel_rfl)) (.cond (by kernel_rfl) (.seq (.plain (by kernel_rfl)) (.ret)) (.skip)))) (.seq (.draw (b := [0, 0, 0, 6, 15, 31]) (by unfold cIxs; kernel_rfl) (by kernel_rfl) (by kernel_rfl) (by kernel_rfl)) (.seq (.plain (by kernel_rfl)) (.seq (.seq (.plain (by kernel_rfl)) (.block (.loop (.seq (.plain (by kernel_rfl)) (.seq (.cond (by kernel_rfl) (.skip) (.exit)) (.seq (.block (.seq (.plain (by kernel_rfl)) (.seq (.draw (b := [0, 0, 2, 7, 15, 0, 32, 127]) (by unfold cIxs; kernel_rfl) (by kernel_rfl) (by kernel_rfl) (by kernel_rfl)) (.cond (by kernel_rfl) (.plain (by kernel_rfl)) (.skip))))) (.plain (by kernel_rfl)))))))) (.seq (.plain (by kernel_rfl)) (.ret))))))⟩, by kernel_rfl, rfl, by decide⟩, by kernel_rfl⟩
theorem ok26 : ∃ fn, Try.prog.funcs[26]? = some fn ∧ FOk Try.prog md fn F26 ∧ (fn.name == "runtime.NumGoroutine") = false :=
  ⟨Try.f26, Try.func26, ⟨⟨_, rfl, .seq (.plain (by kernel_rfl)) (.seq (.seq (.plain (by kernel_rfl)) (.cond (by kernel_rfl) (.seq (.plain (by kernel_rfl)) (.ret)) (.skip))) (.seq (.seq (.plain (by kernel_rfl)) (.block (.loop (.seq (.seq (.plain (by kernel_rfl)) (.cond (by kernel_rfl) (.skip) (.exit))) (.seq (.block (.seq (.draw (b := [0, 0, 3, 7, 0, 0, 48, 112, 255]) (by unfold cIxs; kernel_rfl) (by kernel_rfl) (by kernel_rfl) (by kernel_rfl)) (.cond (by kernel_rfl) (.seq (.plain (by kernel_rfl)) (.ret)) (.skip)))) (.plain (by kernel_rfl))))))) (.seq (.plain (by kernel_rfl)) (.ret))))⟩, by kernel_rfl, rfl, by decide⟩, by kernel_rfl⟩
theorem ok27 : ∃ fn, Try.prog.funcs[27]? = some fn ∧ FOk Try.prog md fn F27 ∧ (fn.name == "runtime.NumGoroutine") = false :=
  ⟨Try.f27, Try.func27, ⟨⟨_, rfl, .seq (.plain (by kernel_rfl)) (.seq (.seq (.plain (by kernel_rfl)) (.block (.loop (.seq (.seq (.plain (by kernel_rfl)) (.cond (by kernel_rfl) (.skip) (.exit))) (.seq (.block (.seq (.plain (by kernel_rfl)) (.seq (.plain (by kernel_rfl)) (.seq (.plain (by kernel_rfl)) (.plain (by kernel_rfl)))))) (.plain (by kernel_rfl))))))) (.seq (.plain (by kernel_rfl)) (.ret)))⟩, by kernel_rfl, rfl, by decide⟩, by kernel_rfl⟩
theorem ok28 : ∃ fn, Try.prog.funcs[28]? = some fn ∧ FOk Try.prog md fn F28 ∧ (fn.name == "runtime.NumGoroutine") = false :=
  ⟨Try.f28, Try.func28, ⟨⟨_, rfl, .seq (.plain (by kernel_rfl)) (.seq (.seq (.plain (by kernel_rfl)) (.block (.loop (.seq (.seq (.plain (by kernel_rfl)) (.cond (by kernel_rfl) (.skip) (.exit))) (.seq (.block (.seq (.plain (by kernel_rfl)) (.plain (by kernel_rfl)))) (.plain (by kernel_rfl))))))) (.seq (.plain (by kernel_rfl)) (.ret)))⟩, by kernel_rfl, rfl, by decide⟩, by kernel_rfl⟩
theorem ok29 : ∃ fn, Try.prog.funcs[29]? = some fn ∧ FOk Try.prog md fn F29 ∧ (fn.name == "runtime.NumGoroutine") = false :=
  ⟨Try.f29, Try.func29, ⟨⟨_, rfl, .seq (.plain (by kernel_rfl)) (.seq (.seq (.plain (by kernel_rfl)) (.block (.loop (.seq (.seq (.plain (by kernel_rfl)) (.cond (by kernel_rfl) (.skip) (.exit))) (.seq (.block (.seq (.seq (.plain (by kernel_rfl)) (.cond (by kernel_rfl) (.seq (.plain (by kernel_rfl)) (.ret)) (.skip))) (.plain (by kernel_rfl)))) (.plain (by kernel_rfl))))))) (.seq (.plain (by kernel_rfl)) (.ret)))⟩, by kernel_rfl, rfl, by decide⟩, by kernel_rfl⟩
theorem ok30 : ∃ fn, Try.prog.funcs[30]? = some fn ∧ FOk Try.prog md fn F30 ∧ (fn.name == "runtime.NumGoroutine") = false :=
  ⟨Try.f30, Try.func30, ⟨⟨_, rfl, .seq (.plain (by kernel_rfl)) (.seq (.plain (by kernel_rfl)) (.seq (.plain (by kernel_rfl)) (.ret)))⟩, by kernel_rfl, rfl, by decide⟩, by kernel_rfl⟩
theorem ok31 : ∃ fn, Try.prog.funcs[31]? = some fn ∧ FOk Try.prog md fn F31 ∧ (fn.name == "runtime.NumGoroutine") = false :=
  ⟨Try.f31, Try.func31, ⟨⟨_, rfl, .seq (.plain (by kernel_rfl)) (.seq (.plain (by kernel_rfl)) (.seq (.plain (by kernel_rfl)) (.ret)))⟩, by kernel_rfl, rfl, by decide⟩, by kernel_rfl⟩
theorem ok32 : ∃ fn, Try.prog.funcs[32]? = some fn ∧ FOk Try.prog md fn F32 ∧ (fn.name == "runtime.NumGoroutine") = false :=
  ⟨Try.f32, Try.func32, ⟨⟨_, rfl, .seq (.plain (by kernel_rfl)) (.seq (.seq (.plain (by kernel_rfl)) (.cond (by kernel_rfl) (.seq (.plain (by kernel_rfl)) (.ret)) (.skip))) (.seq (.plain (by kernel_rfl)) (.ret)))⟩, by kernel_rfl, rfl, by decide⟩, by kernel_rfl⟩
theorem ok33 : ∃ fn, Try.prog.funcs[33]? = some fn ∧ FOk Try.prog md fn F33 ∧ (fn.name == "runtime.NumGoroutine") = false :=
  ⟨Try.f33, Try.func33, ⟨⟨_, rfl, .seq (.plain (by kernel_rfl)) (.seq (.seq (.plain (by kernel_rfl)) (.cond (by kernel_rfl) (.seq (.plain (by kernel_rfl)) (.ret)) (.skip))) (.seq (.seq (.plain (by kernel_rfl)) (.cond (by kernel_rfl) (.seq (.plain (by kernel_rfl)) (.ret)) (.skip))) (.seq (.plain (by kernel_rfl)) (.seq (.draw (b := [0, 0, 0, 6, 15, 31, 63, 127, 0, 0, 512, 0, 3584, 7936, 16128, 32512, 65535, 0, 0, 393216, 1048575, 0, 4194303, 8388607]) (by unfold cIxs; kernel_rfl) (by kernel_rfl) (by kernel_rfl) (by kernel_rfl)) (.ret)))))⟩, by kernel_rfl, rfl, by decide⟩, by kernel_rfl⟩
theorem ok34 : ∃ fn, Try.prog.funcs[34]? = some fn ∧ FOk Try.prog md fn F34 ∧ (fn.name == "runtime.NumGoroutine") = false :=
  ⟨Try.f34, Try.func34, ⟨⟨_, rfl, .seq (.plain (by kernel_rfl)) (.seq (.plain (by kernel_rfl)) (.seq (.seq (.plain (by kernel_rfl)) (.block (.loop (.seq (.seq (.plain (by kernel_rfl)) (.cond (by kernel_rfl) (.skip) (.exit))) (.seq (.block (.seq (.seq (.plain (by kernel_rfl)) (.cond (by kernel_rfl) (.seq (.plain (by kernel_rfl)) (.ret)) (.skip))) (.draw (b := [0, 0, 0, 6, 14, 0, 0, 0, 192, 448, 992, 2016, 4094, 8190, 16383, 32767]) (by unfold cIxs; kernel_rfl) (by kernel_rfl) (by kernel_rfl) (by kernel_rfl)))) (.plain (by kernel_rfl))))))) (.seq (.plain (by kernel_rfl)) (.ret))))⟩, by kernel_rfl, rfl, by decide⟩, by kernel_rfl⟩
theorem ok35 : ∃ fn, Try.prog.funcs[35]? = some fn ∧ FOk Try.prog md fn F35 ∧ (fn.name == "runtime.NumGoroutine") = false :=
  ⟨Try.f35, Try.func35, ⟨⟨_, rfl, .seq (.plain (by kernel_rfl)) (.seq (.plain (by kernel_rfl)) (.seq (.seq (.plain (by kernel_rfl)) (.block (.loop (.seq (.seq (.plain (by kernel_rfl)) (.cond (by kernel_rfl) (.skip) (.exit))) (.seq (.block (.seq (.plain (by kernel_rfl)) (.seq (.plain (by kernel_rfl)) (.seq (.plain (by kernel_rfl)) (.cond (by kernel_rfl) (.plain (by kernel_rfl)) (.skip)))))) (.plain (by kernel_rfl))))))) (.seq (.plain (by kernel_rfl)) (.ret))))⟩, by kernel_rfl, rfl, by decide⟩, by kernel_rfl⟩
theorem ok36 : ∃ fn, Try.prog.funcs[36]? = some fn ∧ FOk Try.prog md fn F36 ∧ (fn.name == "runtime.NumGoroutine") = false :=
  ⟨Try.f36, Try.func36, ⟨⟨_, rfl, .seq (.plain (by kernel_rfl)) (.seq (.seq (.plain (by kernel_rfl)) (.cond (by kernel_rfl) (.seq (.plain (by kernel_rfl)) (.ret)) (.skip))) (.seq (.seq (.plain (by kernel_rfl)) (.block (.loop (.seq (.plain (by kernel_rfl)) (.seq (.cond (by kernel_rfl) (.skip) (.exit)) (.seq (.block (.seq (.plain (by kernel_rfl)) (.seq (.draw (b := [0, 0, 2, 7, 15, 31, 63, 127, 255, 511, 1023, 511, 511, 4607, 14847, 31231, 63999, 131071, 262143, 524287, 1048575, 2097151, 4194303, 8388607, 2097151, 2097151, 52428799, 134217727, 268435455]) (by unfold cIxs; kernel_rfl) (by kernel_rfl) (by kernel_rfl) (by kernel_rfl)) (.cond (by kernel_rfl) (.seq (.plain (by kernel_rfl)) (.ret)) (.skip))))) (.plain (by kernel_rfl)))))))) (.seq (.plain (by kernel_rfl)) (.ret))))⟩, by kernel_rfl, rfl, by decide⟩, by kernel_rfl⟩
theorem ok37 : ∃ fn, Try.prog.funcs[37]? = some fn ∧ FOk Try.prog md fn F37 ∧ (fn.name == "runtime.NumGoroutine") = false :=
  ⟨Try.f37, Try.func37, ⟨⟨_, rfl, .seq (.plain (by kernel_rfl)) (.seq (.block (.seq (.plain (by kernel_rfl)) (.cond (by kernel_rfl) (.seq (.plain (by kernel_rfl)) (.ret)) (.seq (.plain (by kernel_rfl)) (.cond (by kernel_rfl) (.seq (.plain (by kernel_rfl)) (.ret)) (.skip)))))) (.seq (.plain (by kernel_rfl)) (.ret)))⟩, by kernel_rfl, rfl, by decide⟩, by kernel_rfl⟩
theorem ok38 : ∃ fn, Try.prog.funcs[38]? = some fn ∧ FOk Try.prog md fn F38 ∧ (fn.name == "runtime.NumGoroutine") = false :=
  ⟨Try.f38, Try.func38, ⟨⟨_, rfl, .seq (.plain (by kernel_rfl)) (.seq (.block (.seq (.plain (by kernel_rfl)) (.cond (by kernel_rfl) (.seq (.plain (by kernel_rfl)) (.ret)) (.seq (.plain (by kernel_rfl)) (.cond (by kernel_rfl) (.seq (.plain (by kernel_rfl)) (.ret)) (.seq (.plain (by kernel_rfl)) (.cond (by kernel_rfl) (.seq (.plain (by kernel_rfl)) (.ret)) (.skip)))))))) (.seq (.plain (by kernel_rfl)) (.ret)))⟩, by kernel_rfl, rfl, by decide⟩, by kernel_rfl⟩
theorem ok39 : ∃ fn, Try.prog.funcs[39]? = some fn ∧ FOk Try.prog md fn F39 ∧ (fn.name == "runtime.NumGoroutine") = false :=
  ⟨Try.f39, Try.func39, ⟨⟨_, rfl, .seq (.plain (by kernel_rfl)) (.seq (.plain (by kernel_rfl)) (.seq (.draw (b := [0, 0, 3, 0, 0, 24, 0, 64, 192, 448, 1016, 2040, 4088, 8191, 0, 0, 32768, 114688, 262143, 524287]) (by unfold cIxs; kernel_rfl) (by kernel_rfl) (by kernel_rfl) (by kernel_rfl)) (.ret)))⟩, by kernel_rfl, rfl, by decide⟩, by kernel_rfl⟩
theorem ok40 : ∃ fn, Try.prog.funcs[40]? = some fn ∧ FOk Try.prog md fn F40 ∧ (fn.name == "runtime.NumGoroutine") = false :=
  ⟨Try.f40, Try.func40, ⟨⟨_, rfl, .seq (.plain (by kernel_rfl)) (.seq (.seq (.plain (by kernel_rfl)) (.cond (by kernel_rfl) (.seq (.plain (by kernel_rfl)) (.ret)) (.skip))) (.seq (.seq (.plain (by kernel_rfl)) (.block (.loop (.seq (.seq (.plain (by kernel_rfl)) (.cond (by kernel_rfl) (.skip) (.exit))) (.seq (.block (.seq (.draw (b := [0, 0, 3, 7, 0, 0, 48, 112, 255]) (by unfold cIxs; kernel_rfl) (by kernel_rfl) (by kernel_rfl) (by kernel_rfl)) (.cond (by kernel_rfl) (.seq (.plain (by kernel_rfl)) (.ret)) (.skip)))) (.plain (by kernel_rfl))))))) (.seq (.plain (by kernel_rfl)) (.ret))))⟩, by kernel_rfl, rfl, by decide⟩, by kernel_rfl⟩
theorem ok65 : ∃ fn, Try.prog.funcs[65]? = some fn ∧ FOk Try.prog md fn F65 ∧ (fn.name == "runtime.NumGoroutine") = false :=
  ⟨Try.f65, Try.func65, ⟨⟨_, rfl, .seq (.plain (by kernel_rfl)) (.seq (.plain (by kernel_rfl)) (.seq (.plain (by kernel_rfl)) (.ret)))⟩, by kernel_rfl, rfl, by decide⟩, by kernel_rfl⟩
theorem ok66 : ∃ fn, Try.prog.funcs[66]? = some fn ∧ FOk Try.prog md fn F66 ∧ (fn.name == "runtime.NumGoroutine") = false :=
  ⟨Try.f66, Try.func66, ⟨⟨_, rfl, .seq (.plain (by kernel_rfl)) (.seq (.plain (by kernel_rfl)) (.ret))⟩, by kernel_rfl, rfl, by decide⟩, by kernel_rfl⟩
theorem ok69 : ∃ fn, Try.prog.funcs[69]? = some fn ∧ FOk Try.prog md fn F69 ∧ (fn.name == "runtime.NumGoroutine") = false :=
  ⟨Try.f69, Try.func69, ⟨⟨_, rfl, .seq (.plain (by kernel_rfl)) (.seq (.plain (by kernel_rfl)) (.seq (.seq (.plain (by kernel_rfl)) (.cond (by kernel_rfl) (.seq (.plain (by kernel_rfl)) (.ret)) (.skip))) (.seq (.plain (by kernel_rfl)) (.ret))))⟩, by kernel_rfl, rfl, by decide⟩, by kernel_rfl⟩
theorem ok70 : ∃ fn, Try.prog.funcs[70]? = some fn ∧ FOk Try.prog md fn F70 ∧ (fn.name == "runtime.NumGoroutine") = false :=
  ⟨Try.f70, Try.func70, ⟨⟨_, rfl, .seq (.plain (by kernel_rfl)) (.seq (.seq (.plain (by kernel_rfl)) (.cond (by kernel_rfl) (.seq (.plain (by kernel_rfl)) (.ret)) (.skip))) (.seq (.seq (.plain (by kernel_rfl)) (.block (.loop (.seq (.seq (.plain (by kernel_rfl)) (.cond (by kernel_rfl) (.skip) (.exit))) (.seq (.block (.seq (.draw (b := [0, 0, 3, 7, 15, 0, 32, 0, 128, 480, 992, 2047, 4095, 8191, 16383, 32767, 65535, 131071, 131071, 524287, 1048575, 2097151, 131071, 131071, 8519679, 29491199, 63045631, 130154495, 268435455, 536870911, 1073741823, 2147483647, 4294967295, 4294967295, 17179869183, 34359738367, 68719476735, 137438953471, 4294967295, 4294967295, 828928688127, 2199023255551, 4398046511103]) (by unfold cIxs; kernel_rfl) (by kernel_rfl) (by kernel_rfl) (by kernel_rfl)) (.cond (by kernel_rfl) (.seq (.plain (by kernel_rfl)) (.ret)) (.skip)))) (.plain (by kernel_rfl))))))) (.seq (.plain (by kernel_rfl)) (.ret))))⟩, by kernel_rfl, rfl, by decide⟩, by kernel_rfl⟩
theorem ok71 : ∃ fn, Try.prog.funcs[71]? = some fn ∧ FOk Try.prog md fn F71 ∧ (fn.name == "runtime.NumGoroutine") = false :=
  ⟨Try.f71, Try.func71, ⟨⟨_, rfl, .seq (.plain (by kernel_rfl)) (.seq (.plain (by kernel_rfl)) (.seq (.plain (by kernel_rfl)) (.seq (.seq (.plain (by kernel_rfl)) (.block (.loop (.seq (.seq (.plain (by kernel_rfl)) (.cond (by kernel_rfl) (.skip) (.exit))) (.seq (.block (.plain (by kernel_rfl))) (.plain (by kernel_rfl))))))) (.seq (.plain (by kernel_rfl)) (.ret)))))⟩, by kernel_rfl, rfl, by decide⟩, by kernel_rfl⟩
theorem ok72 : ∃ fn, Try.prog.funcs[72]? = some fn ∧ FOk Try.prog md fn F72 ∧ (fn.name == "runtime.NumGoroutine") = false :=
  ⟨Try.f72, Try.func72, ⟨⟨_, rfl, .seq (.plain (by kernel_rfl)) (.seq (.plain (by kernel_rfl)) (.seq (.plain (by kernel_rfl)) (.seq (.plain (by kernel_rfl)) (.seq (.plain (by kernel_rfl)) (.ret)))))⟩, by kernel_rfl, rfl, by decide⟩, by kernel_rfl⟩
theorem ok73 : ∃ fn, Try.prog.funcs[73]? = some fn ∧ FOk Try.prog md fn F73 ∧ (fn.name == "runtime.NumGoroutine") = false :=
  ⟨Try.f73, Try.func73, ⟨⟨_, rfl, .seq (.plain (by kernel_rfl)) (.seq (.block (.seq (.plain (by kernel_rfl)) (.cond (by kernel_rfl) (.seq (.plain (by kernel_rfl)) (.ret)) (.seq (.plain (by kernel_rfl)) (.cond (by kernel_rfl) (.seq (.plain (by kernel_rfl)) (.ret)) (.skip)))))) (.seq (.plain (by kernel_rfl)) (.ret)))⟩, by kernel_rfl, rfl, by decide⟩, by kernel_rfl⟩
theorem ok75 : ∃ fn, Try.prog.funcs[75]? = some fn ∧ FOk Try.prog md fn F75 ∧ (fn.name == "runtime.NumGoroutine") = false :=
  ⟨Try.f75, Try.func75, ⟨⟨_, rfl, .seq (.plain (by kernel_rfl)) (.seq (.plain (by kernel_rfl)) (.seq (.plain (by kernel_rfl)) (.seq (.seq (.plain (by kernel_rfl)) (.block (.loop (.seq (.plain (by kernel_rfl)) (.seq (.cond (by kernel_rfl) (.skip) (.exit)) (.seq (.block (.seq (.plain (by kernel_rfl)) (.seq (.plain (by kernel_rfl)) (.plain (by kernel_rfl))))) (.plain (by kernel_rfl)))))))) (.seq (.plain (by kernel_rfl)) (.seq (.plain (by kernel_rfl)) (.ret))))))⟩, by kernel_rfl, rfl, by decide⟩, by kernel_rfl⟩
theorem ok76 : ∃ fn, Try.prog.funcs[76]? = some fn ∧ FOk Try.prog md fn F76 ∧ (fn.name == "runtime.NumGoroutine") = false :=
  ⟨Try.f76, Try.func76, ⟨⟨_, rfl, .seq (.plain (by kernel_rfl)) (.seq (.seq (.plain (by kernel_rfl)) (.cond (by kernel_rfl) (.seq (.plain (by kernel_rfl)) (.ret)) (.skip))) (.seq (.seq (.plain (by kernel_rfl)) (.cond (by kernel_rfl) (.seq (.plain (by kernel_rfl)) (.ret)) (.skip))) (.seq (.plain (by kernel_rfl)) (.ret))))⟩, by kernel_rfl, rfl, by decide⟩, by kernel_rfl⟩
theorem ok77 : ∃ fn, Try.prog.funcs[77]? = some fn ∧ FOk Try.prog md fn F77 ∧ (fn.name == "runtime.NumGoroutine") = false :=
  ⟨Try.f77, Try.func77, ⟨⟨_, rfl, .seq (.plain (by kernel_rfl)) (.seq (.plain (by kernel_rfl)) (.ret))⟩, by kernel_rfl, rfl, by decide⟩, by kernel_rfl⟩
theorem ok78 : ∃ fn, Try.prog.funcs[78]? = some fn ∧ FOk Try.prog md fn F78 ∧ (fn.name == "runtime.NumGoroutine") = false :=
  ⟨Try.f78, Try.func78, ⟨⟨_, rfl, .seq (.plain (by kernel_rfl)) (.seq (.draw (b := [0, 1, 0, 4, 15, 0, 0, 127, 255, 511]) (by unfold cIxs; kernel_rfl) (by kernel_rfl) (by kernel_rfl) (by kernel_rfl)) (.ret))⟩, by kernel_rfl, rfl, by decide⟩, by kernel_rfl⟩
theorem ok79 : ∃ fn, Try.prog.funcs[79]? = some fn ∧ FOk Try.prog md fn F79 ∧ (fn.name == "runtime.NumGoroutine") = false :=
  ⟨Try.f79, Try.func79, ⟨⟨_, rfl, .seq (.plain (by kernel_rfl)) (.seq (.plain (by kernel_rfl)) (.ret))⟩, by kernel_rfl, rfl, by decide⟩, by kernel_rfl⟩
theorem ok80 : ∃ fn, Try.prog.funcs[80]? = some fn ∧ FOk Try.prog md fn F80 ∧ (fn.name == "runtime.NumGoroutine") = false :=
  ⟨Try.f80, Try.func80, ⟨⟨_, rfl, .seq (.plain (by kernel_rfl)) (.seq (.plain (by kernel_rfl)) (.ret))⟩, by kernel_rfl, rfl, by decide⟩, by kernel_rfl⟩
theorem ok81 : ∃ fn, Try.prog.funcs[81]? = some fn ∧ FOk Try.prog md fn F81 ∧ (fn.name == "runtime.NumGoroutine") = false :=
  ⟨Try.f81, Try.func81, ⟨⟨_, rfl, .seq (.plain (by kernel_rfl)) (.seq (.seq (.plain (by kernel_rfl)) (.cond (by kernel_rfl) (.seq (.plain (by kernel_rfl)) (.ret)) (.skip))) (.seq (.plain (by kernel_rfl)) (.seq (.block (.loop (.seq (.seq (.plain (by kernel_rfl)) (.cond (by kernel_rfl) (.skip) (.exit))) (.block (.seq (.plain (by kernel_rfl)) (.plain (by kernel_rfl))))))) (.seq (.plain (by kernel_rfl)) (.ret)))))⟩, by kernel_rfl, rfl, by decide⟩, by kernel_rfl⟩
theorem ok82 : ∃ fn, Try.prog.funcs[82]? = some fn ∧ FOk Try.prog md fn F82 ∧ (fn.name == "runtime.NumGoroutine") = false :=
  ⟨Try.f82, Try.func82, ⟨⟨_, rfl, .seq (.plain (by kernel_rfl)) (.seq (.plain (by kernel_rfl)) (.ret))⟩, by kernel_rfl, rfl, by decide⟩, by kernel_rfl⟩
theorem ok83 : ∃ fn, Try.prog.funcs[83]? = some fn ∧ FOk Try.prog md fn F83 ∧ (fn.name == "runtime.NumGoroutine") = false :=
  ⟨Try.f83, Try.func83, ⟨⟨_, rfl, .seq (.plain (by kernel_rfl)) (.seq (.plain (by kernel_rfl)) (.ret))⟩, by kernel_rfl, rfl, by decide⟩, by kernel_rfl⟩
theorem ok84 : ∃ fn, Try.prog.funcs[84]? = some fn ∧ FOk Try.prog md fn F84 ∧ (fn.name == "runtime.NumGoroutine") = false :=
  ⟨Try.f84, Try.func84, ⟨⟨_, rfl, .seq (.plain (by kernel_rfl)) (.seq (.plain (by kernel_rfl)) (.ret))⟩, by kernel_rfl, rfl, by decide⟩, by kernel_rfl⟩
theorem ok85 : ∃ fn, Try.prog.funcs[85]? = some fn ∧ FOk Try.prog md fn F85 ∧ (fn.name == "runtime.NumGoroutine") = false :=
  ⟨Try.f85, Try.func85, ⟨⟨_, rfl, .seq (.plain (by kernel_rfl)) (.seq (.plain (by kernel_rfl)) (.seq (.plain (by kernel_rfl)) (.seq (.plain (by kernel_rfl)) (.seq (.seq (.plain (by kernel_rfl)) (.block (.loop (.seq (.plain (by kernel_rfl)) (.seq (.cond (by kernel_rfl) (.skip) (.exit)) (.seq (.block (.seq (.plain (by kernel_rfl)) (.plain (by kernel_rfl)))) (.plain (by kernel_rfl)))))))) (.seq (.plain (by kernel_rfl)) (.ret))))))⟩, by kernel_rfl, rfl, by decide⟩, by kernel_rfl⟩
theorem ok86 : ∃ fn, Try.prog.funcs[86]? = some fn ∧ FOk Try.prog md fn F86 ∧ (fn.name == "runtime.NumGoroutine") = false :=
  ⟨Try.f86, Try.func86, ⟨⟨_, rfl, .seq (.plain (by kernel_rfl)) (.seq (.plain (by kernel_rfl)) (.ret))⟩, by kernel_rfl, rfl, by decide⟩, by kernel_rfl⟩
theorem ok87 : ∃ fn, Try.prog.funcs[87]? = some fn ∧ FOk Try.prog md fn F87 ∧ (fn.name == "runtime.NumGoroutine") = false :=
  ⟨Try.f87, Try.func87, ⟨⟨_, rfl, .seq (.plain (by kernel_rfl)) (.seq (.plain (by kernel_rfl)) (.ret))⟩, by kernel_rfl, rfl, by decide⟩, by kernel_rfl⟩
theorem ok88 : ∃ fn, Try.prog.funcs[88]? = some fn ∧ FOk Try.prog md fn F88 ∧ (fn.name == "runtime.NumGoroutine") = false :=
  ⟨Try.f88, Try.func88, ⟨⟨_, rfl, .seq (.plain (by kernel_rfl)) (.seq (.plain (by kernel_rfl)) (.ret))⟩, by kernel_rfl, rfl, by decide⟩, by kernel_rfl⟩
theorem ok96 : ∃ fn, Try.prog.funcs[96]? = some fn ∧ FOk Try.prog md fn F96 ∧ (fn.name == "runtime.NumGoroutine") = false :=
  ⟨Try.f96, Try.func96, ⟨⟨_, rfl, .seq (.plain (by kernel_rfl)) (.seq (.plain (by kernel_rfl)) (.ret))⟩, by kernel_rfl, rfl, by decide⟩, by kernel_rfl⟩
theorem ok122 : ∃ fn, Try.prog.funcs[122]? = some fn ∧ FOk Try.prog md fn F122 ∧ (fn.name == "runtime.NumGoroutine") = false :=
  ⟨Try.f122, Try.func122, ⟨⟨_, rfl, .seq (.plain (by kernel_rfl)) (.seq (.plain (by kernel_rfl)) (.seq (.seq (.plain (by kernel_rfl)) (.block (.loop (.seq (.seq (.plain (by kernel_rfl)) (.cond (by kernel_rfl) (.skip) (.exit))) (.seq (.block (.plain (by kernel_rfl))) (.plain (by kernel_rfl))))))) (.seq (.plain (by kernel_rfl)) (.ret))))⟩, by kernel_rfl, rfl, by decide⟩, by kernel_rfl⟩
theorem ok123 : ∃ fn, Try.prog.funcs[123]? = some fn ∧ FOk Try.prog md fn F123 ∧ (fn.name == "runtime.NumGoroutine") = false :=
  ⟨Try.f123, Try.func123, ⟨⟨_, rfl, .seq (.plain (by kernel_rfl)) (.seq (.plain (by kernel_rfl)) (.ret))⟩, by kernel_rfl, rfl, by decide⟩, by kernel_rfl⟩
theorem ok124 : ∃ fn, Try.prog.funcs[124]? = some fn ∧ FOk Try.prog md fn F124 ∧ (fn.name == "runtime.NumGoroutine") = false :=
  ⟨Try.f124, Try.func124, ⟨⟨_, rfl, .seq (.plain (by kernel_rfl)) (.seq (.plain (by kernel_rfl)) (.seq (.plain (by kernel_rfl)) (.seq (.seq (.plain (by kernel_rfl)) (.block (.loop (.seq (.seq (.plain (by kernel_rfl)) (.cond (by kernel_rfl) (.skip) (.exit))) (.seq (.block (.seq (.plain (by kernel_rfl)) (.plain (by kernel_rfl)))) (.plain (by kernel_rfl))))))) (.seq (.plain (by kernel_rfl)) (.seq (.plain (by kernel_rfl)) (.ret))))))⟩, by kernel_rfl, rfl, by decide⟩, by kernel_rfl⟩
theorem ok128 : ∃ fn, Try.prog.funcs[128]? = some fn ∧ FOk Try.prog md fn F128 ∧ (fn.name == "runtime.NumGoroutine") = false :=
  ⟨Try.f128, Try.func128, ⟨⟨_, rfl, .seq (.plain (by kernel_rfl)) (.seq (.draw (b := [0, 1, 0, 4, 0, 16, 48, 127, 0, 511]) (by unfold cIxs; kernel_rfl) (by kernel_rfl) (by kernel_rfl) (by kernel_rfl)) (.seq (.plain (by kernel_rfl)) (.seq (.seq (.plain (by kernel_rfl)) (.block (.loop (.seq (.plain (by kernel_rfl)) (.seq (.cond (by kernel_rfl) (.skip) (.exit)) (.seq (.block (.seq (.plain (by kernel_rfl)) (.seq (.seq (.plain (by kernel_rfl)) (.block (.loop (.seq (.seq (.plain (by kernel_rfl)) (.cond (by kernel_rfl) (.skip) (.exit))) (.seq (.block (.seq (.seq (.plain (by kernel_rfl)) (.cond (by kernel_rfl) (.seq (.plain (by kernel_rfl)) (.ret)) (.skip))) (.seq (.plain (by kernel_rfl)) (.cond (by kernel_rfl) (.seq (.draw (b := [0, 0, 3, 0, 0, 31, 63]) (by unfold cIxs; kernel_rfl) (by kernel_rfl) (by kernel_rfl) (by kernel_rfl)) (.draw (b := [0, 0, 3, 0, 0, 31, 63]) (by unfold cIxs; kernel_rfl) (by kernel_rfl) (by kernel_rfl) (by kernel_rfl))) (.skip))))) (.plain (by kernel_rfl))))))) (.seq (.plain (by kernel_rfl)) (.seq (.draw (b := [0, 0, 3, 0, 0, 31, 63, 0, 255]) (by unfold cIxs; kernel_rfl) (by kernel_rfl) (by kernel_rfl) (by kernel_rfl)) (.seq (.draw (b := [0, 0, 3, 0, 0, 31, 63, 0, 255]) (by unfold cIxs; kernel_rfl) (by kernel_rfl) (by kernel_rfl) (by kernel_rfl)) (.seq (.plain (by kernel_rfl)) (.block (.loop (.seq (.plain (by kernel_rfl)) (.seq (.cond (by kernel_rfl) (.skip) (.exit)) (.seq (.block (.seq (.plain (by kernel_rfl)) (.seq (.plain (by kernel_rfl)) (.seq (.plain (by kernel_rfl)) (.cond (by kernel_rfl) (.seq (.draw (b := [0, 0, 3, 0, 0, 31, 0, 127]) (by unfold cIxs; kernel_rfl) (by kernel_rfl) (by kernel_rfl) (by kernel_rfl)) (.draw (b := [0, 0, 3, 0, 0, 31, 0, 127]) (by unfold cIxs; kernel_rfl) (by kernel_rfl) (by kernel_rfl) (by kernel_rfl))) (.skip)))))) (.plain (by kernel_rfl)))))))))))))) (.plain (by kernel_rfl)))))))) (.seq (.plain (by kernel_rfl)) (.ret)))))⟩, by kernel_rfl, rfl, by decide⟩, by kernel_rfl⟩
theorem ok129 : ∃ fn, Try.prog.funcs[129]? = some fn ∧ FOk Try.prog md fn F129 ∧ (fn.name == "runtime.NumGoroutine") = false :=
  ⟨Try.f129, Try.func129, ⟨⟨_, rfl, .seq (.plain (by kernel_rfl)) (.seq (.plain (by kernel_rfl)) (.seq (.plain (by kernel_rfl)) (.seq (.seq (.plain (by kernel_rfl)) (.block (.loop (.seq (.plain (by kernel_rfl)) (.seq (.cond (by kernel_rfl) (.skip) (.exit)) (.seq (.block (.seq (.plain (by kernel_rfl)) (.seq (.plain (by kernel_rfl)) (.block (.loop (.seq (.plain (by kernel_rfl)) (.seq (.cond (by kernel_rfl) (.skip) (.exit)) (.seq (.block (.seq (.plain (by kernel_rfl)) (.draw (b := [0, 1, 0, 0, 12, 0, 0, 96, 0, 480, 992, 2044, 4092, 8191, 16383, 32767]) (by unfold cIxs; kernel_rfl) (by kernel_rfl) (by kernel_rfl) (by kernel_rfl)))) (.plain (by kernel_rfl)))))))))) (.plain (by kernel_rfl)))))))) (.seq (.plain (by kernel_rfl)) (.ret)))))⟩, by kernel_rfl, rfl, by decide⟩, by kernel_rfl⟩
theorem ok130 : ∃ fn, Try.prog.funcs[130]? = some fn ∧ FOk Try.prog md fn F130 ∧ (fn.name == "runtime.NumGoroutine") = false :=
  ⟨Try.f130, Try.func130, ⟨⟨_, rfl, .seq (.plain (by kernel_rfl)) (.seq (.plain (by kernel_rfl)) (.seq (.seq (.plain (by kernel_rfl)) (.block (.loop (.seq (.plain (by kernel_rfl)) (.seq (.cond (by kernel_rfl) (.skip) (.exit)) (.seq (.block (.seq (.plain (by kernel_rfl)) (.draw (b := [0, 1, 0, 0, 12, 31, 63, 127]) (by unfold cIxs; kernel_rfl) (by kernel_rfl) (by kernel_rfl) (by kernel_rfl)))) (.plain (by kernel_rfl)))))))) (.seq (.plain (by kernel_rfl)) (.ret))))⟩, by kernel_rfl, rfl, by decide⟩, by kernel_rfl⟩
theorem ok131 : ∃ fn, Try.prog.funcs[131]? = some fn ∧ FOk Try.prog md fn F131 ∧ (fn.name == "runtime.NumGoroutine") = false :=
  ⟨Try.f131, Try.func131, ⟨⟨_, rfl, .seq (.plain (by kernel_rfl)) (.seq (.plain (by kernel_rfl)) (.seq (.seq (.plain (by kernel_rfl)) (.block (.loop (.seq (.plain (by kernel_rfl)) (.seq (.cond (by kernel_rfl) (.skip) (.exit)) (.seq (.block (.seq (.plain (by kernel_rfl)) (.seq (.plain (by kernel_rfl)) (.seq (.seq (.plain (by kernel_rfl)) (.block (.loop (.seq (.plain (by kernel_rfl)) (.seq (.cond (by kernel_rfl) (.skip) (.exit)) (.seq (.block (.seq (.plain (by kernel_rfl)) (.plain (by kernel_rfl)))) (.plain (by kernel_rfl)))))))) (.plain (by kernel_rfl)))))) (.plain (by kernel_rfl)))))))) (.seq (.plain (by kernel_rfl)) (.ret))))⟩, by kernel_rfl, rfl, by decide⟩, by kernel_rfl⟩
theorem ok132 : ∃ fn, Try.prog.funcs[132]? = some fn ∧ FOk Try.prog md fn F132 ∧ (fn.name == "runtime.NumGoroutine") = false :=
  ⟨Try.f132, Try.func132, ⟨⟨_, rfl, .seq (.plain (by kernel_rfl)) (.seq (.plain (by kernel_rfl)) (.seq (.seq (.plain (by kernel_rfl)) (.block (.loop (.seq (.seq (.plain (by kernel_rfl)) (.cond (by kernel_rfl) (.skip) (.exit))) (.seq (.block (.seq (.plain (by kernel_rfl)) (.seq (.seq (.plain (by kernel_rfl)) (.block (.loop (.seq (.seq (.plain (by kernel_rfl)) (.cond (by kernel_rfl) (.skip) (.exit))) (.seq (.block (.draw (b := [0, 0, 2, 0, 0, 16, 56, 0, 248, 510, 1022, 0, 0, 6144, 14336, 32766, 65535, 131071]) (by unfold cIxs; kernel_rfl) (by kernel_rfl) (by kernel_rfl) (by kernel_rfl))) (.plain (by kernel_rfl))))))) (.plain (by kernel_rfl))))) (.plain (by kernel_rfl))))))) (.seq (.plain (by kernel_rfl)) (.ret))))⟩, by kernel_rfl, rfl, by decide⟩, by kernel_rfl⟩
theorem ok133 : ∃ fn, Try.prog.funcs[133]? = some fn ∧ FOk Try.prog md fn F133 ∧ (fn.name == "runtime.NumGoroutine") = false :=
  ⟨Try.f133, Try.func133, ⟨⟨_, rfl, .seq (.plain (by kernel_rfl)) (.seq (.plain (by kernel_rfl)) (.seq (.plain (by kernel_rfl)) (.seq (.seq (.plain (by kernel_rfl)) (.block (.loop (.seq (.seq (.plain (by kernel_rfl)) (.cond (by kernel_rfl) (.skip) (.exit))) (.seq (.block (.seq (.plain (by kernel_rfl)) (.block (.loop (.seq (.seq (.plain (by kernel_rfl)) (.cond (by kernel_rfl) (.skip) (.exit))) (.seq (.block (.draw (b := [0, 1, 0, 0, 12, 0, 0, 96, 0, 480, 992, 2044, 4092, 8191, 16383, 32767]) (by unfold cIxs; kernel_rfl) (by kernel_rfl) (by kernel_rfl) (by kernel_rfl))) (.plain (by kernel_rfl)))))))) (.plain (by kernel_rfl))))))) (.seq (.plain (by kernel_rfl)) (.ret)))))⟩, by kernel_rfl, rfl, by decide⟩, by kernel_rfl⟩
theorem ok134 : ∃ fn, Try.prog.funcs[134]? = some fn ∧ FOk Try.prog md fn F134 ∧ (fn.name == "runtime.NumGoroutine") = false :=
  ⟨Try.f134, Try.func134, ⟨⟨_, rfl, .seq (.plain (by kernel_rfl)) (.seq (.seq (.plain (by kernel_rfl)) (.cond (by kernel_rfl) (.seq (.plain (by kernel_rfl)) (.ret)) (.skip))) (.seq (.plain (by kernel_rfl)) (.seq (.seq (.plain (by kernel_rfl)) (.cond (by kernel_rfl) (.plain (by kernel_rfl)) (.skip))) (.seq (.plain (by kernel_rfl)) (.ret)))))⟩, by kernel_rfl, rfl, by decide⟩, by kernel_rfl⟩
theorem ok146 : ∃ fn, Try.prog.funcs[146]? = some fn ∧ FOk Try.prog md fn F146 ∧ (fn.name == "runtime.NumGoroutine") = false :=
  ⟨Try.f146, Try.func146, ⟨⟨_, rfl, .seq (.plain (by kernel_rfl)) (.seq (.plain (by kernel_rfl)) (.seq (.seq (.plain (by kernel_rfl)) (.block (.loop (.seq (.seq (.plain (by kernel_rfl)) (.cond (by kernel_rfl) (.skip) (.exit))) (.seq (.block (.draw (b := [0, 0, 0, 6, 0, 0, 48, 126, 254, 511, 1023]) (by unfold cIxs; kernel_rfl) (by kernel_rfl) (by kernel_rfl) (by kernel_rfl))) (.plain (by kernel_rfl))))))) (.seq (.plain (by kernel_rfl)) (.ret))))⟩, by kernel_rfl, rfl, by decide⟩, by kernel_rfl⟩
theorem ok147 : ∃ fn, Try.prog.funcs[147]? = some fn ∧ FOk Try.prog md fn F147 ∧ (fn.name == "runtime.NumGoroutine") = false :=
  ⟨Try.f147, Try.func147, ⟨⟨_, rfl, .seq (.plain (by kernel_rfl)) (.seq (.plain (by kernel_rfl)) (.seq (.seq (.plain (by kernel_rfl)) (.block (.loop (.seq (.plain (by kernel_rfl)) (.seq (.cond (by kernel_rfl) (.skip) (.exit)) (.seq (.block (.seq (.plain (by kernel_rfl)) (.draw (b := [0, 0, 0, 0, 12, 0, 0, 96, 252, 511, 1023]) (by unfold cIxs; kernel_rfl) (by kernel_rfl) (by kernel_rfl) (by kernel_rfl)))) (.plain (by kernel_rfl)))))))) (.seq (.plain (by kernel_rfl)) (.ret))))⟩, by kernel_rfl, rfl, by decide⟩, by kernel_rfl⟩
theorem ok148 : ∃ fn, Try.prog.funcs[148]? = some fn ∧ FOk Try.prog md fn F148 ∧ (fn.name == "runtime.NumGoroutine") = false :=
  ⟨Try.f148, Try.func148, ⟨⟨_, rfl, .seq (.plain (by kernel_rfl)) (.seq (.plain (by kernel_rfl)) (.seq (.seq (.draw (b := [0, 1, 3, 7, 0, 16, 48, 112, 240, 511]) (by unfold cIxs; kernel_rfl) (by kernel_rfl) (by kernel_rfl) (by kernel_rfl)) (.cond (by kernel_rfl) (.draw (b := [0, 1, 3, 7, 0, 16, 48, 112, 255, 511, 1023, 2047]) (by unfold cIxs; kernel_rfl) (by kernel_rfl) (by kernel_rfl) (by kernel_rfl)) (.skip))) (.seq (.plain (by kernel_rfl)) (.seq (.plain (by kernel_rfl)) (.seq (.seq (.draw (b := [0, 1, 3, 7, 0, 16, 48, 112, 240, 511]) (by unfold cIxs; kernel_rfl) (by kernel_rfl) (by kernel_rfl) (by kernel_rfl)) (.cond (by kernel_rfl) (.seq (.plain (by kernel_rfl)) (.ret)) (.skip))) (.seq (.plain (by kernel_rfl)) (.ret)))))))⟩, by kernel_rfl, rfl, by decide⟩, by kernel_rfl⟩
theorem ok149 : ∃ fn, Try.prog.funcs[149]? = some fn ∧ FOk Try.prog md fn F149 ∧ (fn.name == "runtime.NumGoroutine") = false :=
  ⟨Try.f149, Try.func149, ⟨⟨_, rfl, .seq (.plain (by kernel_rfl)) (.seq (.plain (by kernel_rfl)) (.seq (.plain (by kernel_rfl)) (.seq (.plain (by kernel_rfl)) (.seq (.seq (.plain (by kernel_rfl)) (.block (.loop (.seq (.seq (.plain (by kernel_rfl)) (.cond (by kernel_rfl) (.skip) (.exit))) (.seq (.block (.seq (.plain (by kernel_rfl)) (.seq (.block (.loop (.seq (.seq (.plain (by kernel_rfl)) (.cond (by kernel_rfl) (.skip) (.exit))) (.block (.plain (by kernel_rfl)))))) (.seq (.seq (.plain (by kernel_rfl)) (.cond (by kernel_rfl) (.seq (.plain (by kernel_rfl)) (.ret)) (.skip))) (.seq (.plain (by kernel_rfl)) (.seq (.plain (by kernel_rfl)) (.plain (by kernel_rfl)))))))) (.plain (by kernel_rfl))))))) (.seq (.plain (by kernel_rfl)) (.ret))))))⟩, by kernel_rfl, rfl, by decide⟩, by kernel_rfl⟩
theorem ok150 : ∃ fn, Try.prog.funcs[150]? = some fn ∧ FOk Try.prog md fn F150 ∧ (fn.name == "runtime.NumGoroutine") = false :=
  ⟨Try.f150, Try.func150, ⟨⟨_, rfl, .seq (.plain (by kernel_rfl)) (.seq (.plain (by kernel_rfl)) (.seq (.seq (.plain (by kernel_rfl)) (.block (.loop (.seq (.seq (.plain (by kernel_rfl)) (.cond (by kernel_rfl) (.skip) (.exit))) (.seq (.block (.draw (b := [0, 1, 0, 4, 0, 0, 48, 112, 0, 256, 1008, 0, 0, 6144, 14336, 30720, 0, 65536, 260096, 524284, 1048575, 2097151, 4194303]) (by unfold cIxs; kernel_rfl) (by kernel_rfl) (by kernel_rfl) (by kernel_rfl))) (.plain (by kernel_rfl))))))) (.seq (.plain (by kernel_rfl)) (.ret))))⟩, by kernel_rfl, rfl, by decide⟩, by kernel_rfl⟩
theorem ok153 : ∃ fn, Try.prog.funcs[153]? = some fn ∧ FOk Try.prog md fn F153 ∧ (fn.name == "runtime.NumGoroutine") = false :=
  ⟨Try.f153, Try.func153, ⟨⟨_, rfl, .seq (.plain (by kernel_rfl)) (.seq (.ifnil (e := 2) (by rfl) (by kernel_rfl) (by rfl) (by simp) (by kernel_rfl) (by kernel_rfl) (by rfl) (by rfl) (.seq (.plain (by kernel_rfl)) (.ret)) (.skip)) (.seq (.plain (by kernel_rfl)) (.ret)))⟩, by kernel_rfl, rfl, by decide⟩, by kernel_rfl⟩
theorem ok154 : ∃ fn, Try.prog.funcs[154]? = some fn ∧ FOk Try.prog md fn F154 ∧ (fn.name == "runtime.NumGoroutine") = false :=
  ⟨Try.f154, Try.func154, ⟨⟨_, rfl, .seq (.plain (by kernel_rfl)) (.seq (.plain (by kernel_rfl)) (.seq (.seq (.plain (by kernel_rfl)) (.block (.loop (.seq (.plain (by kernel_rfl)) (.seq (.cond (by kernel_rfl) (.skip) (.exit)) (.seq (.block (.seq (.plain (by kernel_rfl)) (.plain (by kernel_rfl)))) (.plain (by kernel_rfl)))))))) (.seq (.plain (by kernel_rfl)) (.ret))))⟩, by kernel_rfl, rfl, by decide⟩, by kernel_rfl⟩
theorem ok155 : ∃ fn, Try.prog.funcs[155]? = some fn ∧ FOk Try.prog md fn F155 ∧ (fn.name == "runtime.NumGoroutine") = false :=
  ⟨Try.f155, Try.func155, ⟨⟨_, rfl, .seq (.plain (by kernel_rfl)) (.seq (.plain (by kernel_rfl)) (.ret))⟩, by kernel_rfl, rfl, by decide⟩, by kernel_rfl⟩
theorem ok156 : ∃ fn, Try.prog.funcs[156]? = some fn ∧ FOk Try.prog md fn F156 ∧ (fn.name == "runtime.NumGoroutine") = false :=
  ⟨Try.f156, Try.func156, ⟨⟨_, rfl, .seq (.plain (by kernel_rfl)) (.block (.loop (.seq (.plain (by kernel_rfl)) (.seq (.cond (by kernel_rfl) (.skip) (.exit)) (.seq (.block (.seq (.plain (by kernel_rfl)) (.draw (b := [0, 0, 3, 7, 0, 0, 48, 127, 255, 511]) (by unfold cIxs; kernel_rfl) (by kernel_rfl) (by kernel_rfl) (by kernel_rfl)))) (.plain (by kernel_rfl)))))))⟩, by kernel_rfl, rfl, by decide⟩, by kernel_rfl⟩
theorem ok157 : ∃ fn, Try.prog.funcs[157]? = some fn ∧ FOk Try.prog md fn F157 ∧ (fn.name == "runtime.NumGoroutine") = false :=
  ⟨Try.f157, Try.func157, ⟨⟨_, rfl, .seq (.plain (by kernel_rfl)) (.seq (.plain (by kernel_rfl)) (.ret))⟩, by kernel_rfl, rfl, by decide⟩, by kernel_rfl⟩
theorem ok158 : ∃ fn, Try.prog.funcs[158]? = some fn ∧ FOk Try.prog md fn F158 ∧ (fn.name == "runtime.NumGoroutine") = false :=
  ⟨Try.f158, Try.func158, ⟨⟨_, rfl, .seq (.plain (by kernel_rfl)) (.seq (.plain (by kernel_rfl)) (.seq (.block (.loop (.seq (.seq (.plain (by kernel_rfl)) (.cond (by kernel_rfl) (.skip) (.exit))) (.seq (.block (.seq (.seq (.plain (by kernel_rfl)) (.cond (by kernel_rfl) (.plain (by kernel_rfl)) (.skip))) (.plain (by kernel_rfl)))) (.plain (by kernel_rfl)))))) (.seq (.plain (by kernel_rfl)) (.ret))))⟩, by kernel_rfl, rfl, by decide⟩, by kernel_rfl⟩
theorem ok159 : ∃ fn, Try.prog.funcs[159]? = some fn ∧ FOk Try.prog md fn F159 ∧ (fn.name == "runtime.NumGoroutine") = false :=
  ⟨Try.f159, Try.func159, ⟨⟨_, rfl, .seq (.plain (by kernel_rfl)) (.seq (.plain (by kernel_rfl)) (.seq (.seq (.plain (by kernel_rfl)) (.block (.loop (.seq (.plain (by kernel_rfl)) (.seq (.cond (by kernel_rfl) (.skip) (.exit)) (.seq (.block (.seq (.plain (by kernel_rfl)) (.plain (by kernel_rfl)))) (.plain (by kernel_rfl)))))))) (.seq (.plain (by kernel_rfl)) (.ret))))⟩, by kernel_rfl, rfl, by decide⟩, by kernel_rfl⟩
theorem ok160 : ∃ fn, Try.prog.funcs[160]? = some fn ∧ FOk Try.prog md fn F160 ∧ (fn.name == "runtime.NumGoroutine") = false :=
  ⟨Try.f160, Try.func160, ⟨⟨_, rfl, .seq (.plain (by kernel_rfl)) (.seq (.plain (by kernel_rfl)) (.seq (.seq (.plain (by kernel_rfl)) (.block (.loop (.seq (.seq (.plain (by kernel_rfl)) (.cond (by kernel_rfl) (.skip) (.exit))) (.seq (.block (.plain (by kernel_rfl))) (.plain (by kernel_rfl))))))) (.seq (.plain (by kernel_rfl)) (.ret))))⟩, by kernel_rfl, rfl, by decide⟩, by kernel_rfl⟩
theorem ok161 : ∃ fn, Try.prog.funcs[161]? = some fn ∧ FOk Try.prog md fn F161 ∧ (fn.name == "runtime.NumGoroutine") = false :=
  ⟨Try.f161, Try.func161, ⟨⟨_, rfl, .seq (.plain (by kernel_rfl)) (.seq (.plain (by kernel_rfl)) (.seq (.seq (.plain (by kernel_rfl)) (.block (.loop (.seq (.seq (.plain (by kernel_rfl)) (.cond (by kernel_rfl) (.skip) (.exit))) (.seq (.block (.seq (.plain (by kernel_rfl)) (.cond (by kernel_rfl) (.plain (by kernel_rfl)) (.plain (by kernel_rfl))))) (.plain (by kernel_rfl))))))) (.seq (.plain (by kernel_rfl)) (.ret))))⟩, by kernel_rfl, rfl, by decide⟩, by kernel_rfl⟩
theorem ok162 : ∃ fn, Try.prog.funcs[162]? = some fn ∧ FOk Try.prog md fn F162 ∧ (fn.name == "runtime.NumGoroutine") = false :=
  ⟨Try.f162, Try.func162, ⟨⟨_, rfl, .seq (.plain (by kernel_rfl)) (.seq (.plain (by kernel_rfl)) (.seq (.seq (.plain (by kernel_rfl)) (.block (.loop (.seq (.seq (.plain (by kernel_rfl)) (.cond (by kernel_rfl) (.skip) (.exit))) (.seq (.block (.seq (.seq (.plain (by kernel_rfl)) (.cond (by kernel_rfl) (.plain (by kernel_rfl)) (.skip))) (.seq (.plain (by kernel_rfl)) (.seq (.plain (by kernel_rfl)) (.seq (.plain (by kernel_rfl)) (.cond (by kernel_rfl) (.plain (by kernel_rfl)) (.skip))))))) (.plain (by kernel_rfl))))))) (.seq (.plain (by kernel_rfl)) (.ret))))⟩, by kernel_rfl, rfl, by decide⟩, by kernel_rfl⟩
theorem ok163 : ∃ fn, Try.prog.funcs[163]? = some fn ∧ FOk Try.prog md fn F163 ∧ (fn.name == "runtime.NumGoroutine") = false :=
  ⟨Try.f163, Try.func163, ⟨⟨_, rfl, .seq (.plain (by kernel_rfl)) (.seq (.plain (by kernel_rfl)) (.ret))⟩, by kernel_rfl, rfl, by decide⟩, by kernel_rfl⟩
theorem ok168 : ∃ fn, Try.prog.funcs[168]? = some fn ∧ FOk Try.prog md fn F168 ∧ (fn.name == "runtime.NumGoroutine") = false :=
  ⟨Try.f168, Try.func168, ⟨⟨_, rfl, .seq (.plain (by kernel_rfl)) (.seq (.plain (by kernel_rfl)) (.ret))⟩, by kernel_rfl, rfl, by decide⟩, by kernel_rfl⟩
theorem ok169 : ∃ fn, Try.prog.funcs[169]? = some fn ∧ FOk Try.prog md fn F169 ∧ (fn.name == "runtime.NumGoroutine") = false :=
  ⟨Try.f169, Try.func169, ⟨⟨_, rfl, .seq (.plain (by kernel_rfl)) (.block (.loop (.seq (.seq (.plain (by kernel_rfl)) (.cond (by kernel_rfl) (.skip) (.exit))) (.seq (.block (.seq (.plain (by kernel_rfl)) (.seq (.plain (by kernel_rfl)) (.plain (by kernel_rfl))))) (.plain (by kernel_rfl))))))⟩, by kernel_rfl, rfl, by decide⟩, by kernel_rfl⟩
theorem ok170 : ∃ fn, Try.prog.funcs[170]? = some fn ∧ FOk Try.prog md fn F170 ∧ (fn.name == "runtime.NumGoroutine") = false :=
  ⟨Try.f170, Try.func170, ⟨⟨_, rfl, .seq (.plain (by kernel_rfl)) (.seq (.seq (.plain (by kernel_rfl)) (.block (.loop (.seq (.seq (.plain (by kernel_rfl)) (.cond (by kernel_rfl) (.skip) (.exit))) (.seq (.block (.seq (.plain (by kernel_rfl)) (.plain (by kernel_rfl)))) (.plain (by kernel_rfl))))))) (.seq (.plain (by kernel_rfl)) (.block (.loop (.seq (.seq (.plain (by kernel_rfl)) (.cond (by kernel_rfl) (.skip) (.exit))) (.seq (.block (.seq (.plain (by kernel_rfl)) (.seq (.seq (.plain (by kernel_rfl)) (.cond (by kernel_rfl) (.exit) (.skip))) (.seq (.plain (by kernel_rfl)) (.block (.loop (.seq (.seq (.plain (by kernel_rfl)) (.cond (by kernel_rfl) (.skip) (.exit))) (.seq (.block (.seq (.draw (b := [0, 0, 0, 6, 0, 30, 63, 127, 0, 0, 0, 0, 3072, 0, 15360, 32256, 65024, 130816, 262143, 524287, 1048575]) (by unfold cIxs; kernel_rfl) (by kernel_rfl) (by kernel_rfl) (by kernel_rfl)) (.draw (b := [0, 0, 0, 6, 0, 30, 63, 127, 0, 0, 0, 0, 3072, 0, 15360, 32256, 65024, 130816, 262143, 524287, 1048575]) (by unfold cIxs; kernel_rfl) (by kernel_rfl) (by kernel_rfl) (by kernel_rfl)))) (.plain (by kernel_rfl)))))))))) (.plain (by kernel_rfl))))))))⟩, by kernel_rfl, rfl, by decide⟩, by kernel_rfl⟩
theorem ok173 : ∃ fn, Try.prog.funcs[173]? = some fn ∧ FOk Try.prog md fn F173 ∧ (fn.name == "runtime.NumGoroutine") = false :=
  ⟨Try.f173, Try.func173, ⟨⟨_, rfl, .seq (.plain (by kernel_rfl)) (.seq (.plain (by kernel_rfl)) (.seq (.block (.loop (.seq (.seq (.plain (by kernel_rfl)) (.cond (by kernel_rfl) (.skip) (.exit))) (.seq (.block (.seq (.seq (.plain (by kernel_rfl)) (.cond (by kernel_rfl) (.plain (by kernel_rfl)) (.skip))) (.plain (by kernel_rfl)))) (.plain (by kernel_rfl)))))) (.seq (.plain (by kernel_rfl)) (.ret))))⟩, by kernel_rfl, rfl, by decide⟩, by kernel_rfl⟩
theorem ok174 : ∃ fn, Try.prog.funcs[174]? = some fn ∧ FOk Try.prog md fn F174 ∧ (fn.name == "runtime.NumGoroutine") = false :=
  ⟨Try.f174, Try.func174, ⟨⟨_, rfl, .seq (.plain (by kernel_rfl)) (.seq (.plain (by kernel_rfl)) (.seq (.seq (.plain (by kernel_rfl)) (.cond (by kernel_rfl) (.plain (by kernel_rfl)) (.skip))) (.seq (.plain (by kernel_rfl)) (.ret))))⟩, by kernel_rfl, rfl, by decide⟩, by kernel_rfl⟩
theorem ok175 : ∃ fn, Try.prog.funcs[175]? = some fn ∧ FOk Try.prog md fn F175 ∧ (fn.name == "runtime.NumGoroutine") = false :=
  ⟨Try.f175, Try.func175, ⟨⟨_, rfl, .seq (.plain (by kernel_rfl)) (.seq (.plain (by kernel_rfl)) (.seq (.block (.loop (.seq (.seq (.plain (by kernel_rfl)) (.cond (by kernel_rfl) (.skip) (.exit))) (.block (.seq (.seq (.plain (by kernel_rfl)) (.cond (by kernel_rfl) (.plain (by kernel_rfl)) (.skip))) (.seq (.plain (by kernel_rfl)) (.plain (by kernel_rfl)))))))) (.seq (.plain (by kernel_rfl)) (.ret))))⟩, by kernel_rfl, rfl, by decide⟩, by kernel_rfl⟩
set_option maxRecDepth 100000 in
theorem progOk : ProgOk Try.prog code where
  fn := fun f F _ h => by
    simp only [code, fns] at h
    split at h
    · cases h; exact ok3
    · cases h; exact ok4
    · cases h; exact ok5
    · cases h; exact ok6
    · cases h; exact ok7
    · cases h; exact ok16
    · cases h; exact ok17
    · cases h; exact ok18
    · cases h; exact ok19
    · cases h; exact ok20
    · cases h; exact ok21
    · cases h; exact ok22
    · cases h; exact ok23
    · cases h; exact ok24
    · cases h; exact ok25
    · cases h; exact ok26
    · cases h; exact ok27
    · cases h; exact ok28
    · cases h; exact ok29
    · cases h; exact ok30
    · cases h; exact ok31
    · cases h; exact ok32
    · cases h; exact ok33
    · cases h; exact ok34
    · cases h; exact ok35
    · cases h; exact ok36
    · cases h; exact ok37
    · cases h; exact ok38
    · cases h; exact ok39
    · cases h; exact ok40
    · cases h; exact ok65
    · cases h; exact ok66
    · cases h; exact ok69
    · cases h; exact ok70
    · cases h; exact ok71
    · cases h; exact ok72
    · cases h; exact ok73
    · cases h; exact ok75
    · cases h; exact ok76
    · cases h; exact ok77
    · cases h; exact ok78
    · cases h; exact ok79
    · cases h; exact ok80
    · cases h; exact ok81
    · cases h; exact ok82
    · cases h; exact ok83
    · cases h; exact ok84
    · cases h; exact ok85
    · cases h; exact ok86
    · cases h; exact ok87
    · cases h; exact ok88
    · cases h; exact ok96
    · cases h; exact ok122
    · cases h; exact ok123
    · cases h; exact ok124
    · cases h; exact ok128
    · cases h; exact ok129
    · cases h; exact ok130
    · cases h; exact ok131
    · cases h; exact ok132
    · cases h; exact ok133
    · cases h; exact ok134
    · cases h; exact ok146
    · cases h; exact ok147
    · cases h; exact ok148
    · cases h; exact ok149
    · cases h; exact ok150
    · cases h; exact ok153
    · cases h; exact ok154
    · cases h; exact ok155
    · cases h; exact ok156
    · cases h; exact ok157
    · cases h; exact ok158
    · cases h; exact ok159
    · cases h; exact ok160
    · cases h; exact ok161
    · cases h; exact ok162
    · cases h; exact ok163
    · cases h; exact ok168
    · cases h; exact ok169
    · cases h; exact ok170
    · cases h; exact ok173
    · cases h; exact ok174
    · cases h; exact ok175
    · cases h
  nat := fun f h args E v bs hn hv => by
    simp only [code, nats] at hn
    split at hn
    · cases hn; exact ⟨⟨Try.f74, Try.func74, by kernel_rfl, by kernel_rfl⟩, natJoin_ok Try.strings_Join_none (fun bk o c xs sep w h1 h2 h3 h4 h5 => Try.strings_Join bk o c xs sep w h1 h2 h3 h4 h5) hv⟩
    · cases hn; exact ⟨⟨Try.f135, Try.func135, by kernel_rfl, by kernel_rfl⟩, natRepeat_ok (fun s c w h1 h2 => Try.strings_Repeat s c w h1 h2) hv⟩
    · cases hn
end Go.Ae.C3
