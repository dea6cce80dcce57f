/- The program's functions are the evaluator's. -/
import Derived.Test.YtppcbpmnfahnkaaM2Code
import Derived.Test.YtppcbpmnfahnkaaProg
import Derived.Test.YtppcbpmnfahnkaaShelf
import Derived.KernelRfl
namespace Go.Ae.M2
open Go.Proofs
set_option linter.unusedSimpArgs false

theorem ok5 : ∃ fn, Try.prog.funcs[5]? = some fn ∧ FOk Try.prog md fn F5 ∧ (fn.name == "runtime.NumGoroutine") = false :=
  ⟨Try.f5, Try.func5, ⟨⟨_, rfl, .seq (.plain (by kernel_rfl)) (.seq (.seq (.plain (by kernel_rfl)) (.cond (by kernel_rfl) (.seq (.plain (by kernel_rfl)) (.ret)) (.skip))) (.seq (.plain (by kernel_rfl)) (.seq (.plain (by kernel_rfl)) (.seq (.plain (by kernel_rfl)) (.seq (.plain (by kernel_rfl)) (.seq (.plain (by kernel_rfl)) (.seq (.plain (by kernel_rfl)) (.seq (.plain (by kernel_rfl)) (.seq (.plain (by kernel_rfl)) (.seq (.plain (by kernel_rfl)) (.seq (.seq (.plain (by kernel_rfl)) (.block (.loop (.seq (.seq (.plain (by kernel_rfl)) (.cond (by kernel_rfl) (.skip) (.exit))) (.seq (.block (.plain (by kernel_rfl))) (.plain (by kernel_rfl))))))) (.seq (.plain (by kernel_rfl)) (.seq (.plain (by kernel_rfl)) (.ret))))))))))))))⟩, by kernel_rfl, rfl, by decide⟩, by kernel_rfl⟩
theorem ok6 : ∃ fn, Try.prog.funcs[6]? = some fn ∧ FOk Try.prog md fn F6 ∧ (fn.name == "runtime.NumGoroutine") = false :=
  ⟨Try.f6, Try.func6, ⟨⟨_, rfl, .seq (.plain (by kernel_rfl)) (.seq (.seq (.plain (by kernel_rfl)) (.cond (by kernel_rfl) (.seq (.plain (by kernel_rfl)) (.ret)) (.skip))) (.seq (.plain (by kernel_rfl)) (.seq (.plain (by kernel_rfl)) (.seq (.plain (by kernel_rfl)) (.seq (.seq (.plain (by kernel_rfl)) (.cond (by kernel_rfl) (.seq (.plain (by kernel_rfl)) (.ret)) (.skip))) (.seq (.seq (.plain (by kernel_rfl)) (.block (.loop (.seq (.seq (.plain (by kernel_rfl)) (.cond (by kernel_rfl) (.skip) (.exit))) (.seq (.block (.seq (.plain (by kernel_rfl)) (.cond (by kernel_rfl) (.seq (.plain (by kernel_rfl)) (.ret)) (.skip)))) (.plain (by kernel_rfl))))))) (.seq (.plain (by kernel_rfl)) (.ret))))))))⟩, by kernel_rfl, rfl, by decide⟩, by kernel_rfl⟩
theorem ok7 : ∃ fn, Try.prog.funcs[7]? = some fn ∧ FOk Try.prog md fn F7 ∧ (fn.name == "runtime.NumGoroutine") = false :=
  ⟨Try.f7, Try.func7, ⟨⟨_, rfl, .seq (.plain (by kernel_rfl)) (.seq (.seq (.plain (by kernel_rfl)) (.cond (by kernel_rfl) (.seq (.plain (by kernel_rfl)) (.ret)) (.skip))) (.seq (.plain (by kernel_rfl)) (.seq (.plain (by kernel_rfl)) (.seq (.plain (by kernel_rfl)) (.seq (.seq (.plain (by kernel_rfl)) (.cond (by kernel_rfl) (.seq (.plain (by kernel_rfl)) (.ret)) (.skip))) (.seq (.plain (by kernel_rfl)) (.seq (.seq (.plain (by kernel_rfl)) (.cond (by kernel_rfl) (.seq (.plain (by kernel_rfl)) (.ret)) (.skip))) (.seq (.plain (by kernel_rfl)) (.seq (.plain (by kernel_rfl)) (.seq (.plain (by kernel_rfl)) (.ret)))))))))))⟩, by kernel_rfl, rfl, by decide⟩, by kernel_rfl⟩
theorem ok8 : ∃ fn, Try.prog.funcs[8]? = some fn ∧ FOk Try.prog md fn F8 ∧ (fn.name == "runtime.NumGoroutine") = false :=
  ⟨Try.f8, Try.func8, ⟨⟨_, rfl, .seq (.plain (by kernel_rfl)) (.seq (.plain (by kernel_rfl)) (.seq (.plain (by kernel_rfl)) (.seq (.seq (.plain (by kernel_rfl)) (.cond (by kernel_rfl) (.seq (.plain (by kernel_rfl)) (.ret)) (.skip))) (.seq (.plain (by kernel_rfl)) (.seq (.plain (by kernel_rfl)) (.seq (.plain (by kernel_rfl)) (.seq (.seq (.plain (by kernel_rfl)) (.cond (by kernel_rfl) (.seq (.plain (by kernel_rfl)) (.ret)) (.skip))) (.seq (.seq (.draw (b := [0, 0, 2, 7, 15]) (by unfold cIxs; kernel_rfl) (by kernel_rfl) (by kernel_rfl) (by kernel_rfl)) (.cond (by kernel_rfl) (.seq (.plain (by kernel_rfl)) (.ret)) (.skip))) (.seq (.plain (by kernel_rfl)) (.seq (.plain (by kernel_rfl)) (.seq (.seq (.plain (by kernel_rfl)) (.cond (by kernel_rfl) (.seq (.plain (by kernel_rfl)) (.ret)) (.skip))) (.seq (.plain (by kernel_rfl)) (.seq (.plain (by kernel_rfl)) (.seq (.plain (by kernel_rfl)) (.seq (.plain (by kernel_rfl)) (.seq (.seq (.plain (by kernel_rfl)) (.cond (by kernel_rfl) (.seq (.plain (by kernel_rfl)) (.ret)) (.skip))) (.seq (.seq (.plain (by kernel_rfl)) (.cond (by kernel_rfl) (.seq (.plain (by kernel_rfl)) (.ret)) (.skip))) (.seq (.plain (by kernel_rfl)) (.seq (.seq (.plain (by kernel_rfl)) (.cond (by kernel_rfl) (.seq (.plain (by kernel_rfl)) (.ret)) (.skip))) (.seq (.plain (by kernel_rfl)) (.seq (.plain (by kernel_rfl)) (.seq (.seq (.plain (by kernel_rfl)) (.cond (by kernel_rfl) (.seq (.plain (by kernel_rfl)) (.ret)) (.skip))) (.seq (.seq (.plain (by kernel_rfl)) (.cond (by kernel_rfl) (.seq (.plain (by kernel_rfl)) (.ret)) (.skip))) (.seq (.plain (by kernel_rfl)) (.ret)))))))))))))))))))))))))⟩, by kernel_rfl, rfl, by decide⟩, by kernel_rfl⟩
theorem ok10 : ∃ fn, Try.prog.funcs[10]? = some fn ∧ FOk Try.prog md fn F10 ∧ (fn.name == "runtime.NumGoroutine") = false :=
  ⟨Try.f10, Try.func10, ⟨⟨_, rfl, .seq (.plain (by kernel_rfl)) (.seq (.seq (.plain (by kernel_rfl)) (.cond (by kernel_rfl) (.seq (.plain (by kernel_rfl)) (.ret)) (.skip))) (.seq (.plain (by kernel_rfl)) (.ret)))⟩, by kernel_rfl, rfl, by decide⟩, by kernel_rfl⟩
theorem ok11 : ∃ fn, Try.prog.funcs[11]? = some fn ∧ FOk Try.prog md fn F11 ∧ (fn.name == "runtime.NumGoroutine") = false :=
  ⟨Try.f11, Try.func11, ⟨⟨_, rfl, .seq (.plain (by kernel_rfl)) (.seq (.seq (.plain (by kernel_rfl)) (.cond (by kernel_rfl) (.seq (.plain (by kernel_rfl)) (.ret)) (.skip))) (.seq (.seq (.plain (by kernel_rfl)) (.cond (by kernel_rfl) (.seq (.plain (by kernel_rfl)) (.ret)) (.skip))) (.seq (.seq (.plain (by kernel_rfl)) (.cond (by kernel_rfl) (.seq (.plain (by kernel_rfl)) (.ret)) (.skip))) (.seq (.plain (by kernel_rfl)) (.ret)))))⟩, by kernel_rfl, rfl, by decide⟩, by kernel_rfl⟩
theorem ok12 : ∃ fn, Try.prog.funcs[12]? = some fn ∧ FOk Try.prog md fn F12 ∧ (fn.name == "runtime.NumGoroutine") = false :=
  ⟨Try.f12, Try.func12, ⟨⟨_, rfl, .seq (.plain (by kernel_rfl)) (.seq (.plain (by kernel_rfl)) (.seq (.plain (by kernel_rfl)) (.ret)))⟩, by kernel_rfl, rfl, by decide⟩, by kernel_rfl⟩
theorem ok13 : ∃ fn, Try.prog.funcs[13]? = some fn ∧ FOk Try.prog md fn F13 ∧ (fn.name == "runtime.NumGoroutine") = false :=
  ⟨Try.f13, Try.func13, ⟨⟨_, rfl, .seq (.plain (by kernel_rfl)) (.seq (.plain (by kernel_rfl)) (.seq (.seq (.plain (by kernel_rfl)) (.cond (by kernel_rfl) (.seq (.plain (by kernel_rfl)) (.ret)) (.skip))) (.seq (.plain (by kernel_rfl)) (.ret))))⟩, by kernel_rfl, rfl, by decide⟩, by kernel_rfl⟩
theorem ok14 : ∃ fn, Try.prog.funcs[14]? = some fn ∧ FOk Try.prog md fn F14 ∧ (fn.name == "runtime.NumGoroutine") = false :=
  ⟨Try.f14, Try.func14, ⟨⟨_, rfl, .seq (.plain (by kernel_rfl)) (.seq (.plain (by kernel_rfl)) (.seq (.seq (.plain (by kernel_rfl)) (.cond (by kernel_rfl) (.seq (.plain (by kernel_rfl)) (.ret)) (.skip))) (.seq (.plain (by kernel_rfl)) (.ret))))⟩, by kernel_rfl, rfl, by decide⟩, by kernel_rfl⟩
theorem ok16 : ∃ fn, Try.prog.funcs[16]? = some fn ∧ FOk Try.prog md fn F16 ∧ (fn.name == "runtime.NumGoroutine") = false :=
  ⟨Try.f16, Try.func16, ⟨⟨_, rfl, .seq (.plain (by kernel_rfl)) (.seq (.plain (by kernel_rfl)) (.seq (.plain (by kernel_rfl)) (.seq (.plain (by kernel_rfl)) (.seq (.plain (by kernel_rfl)) (.seq (.plain (by kernel_rfl)) (.ret))))))⟩, by kernel_rfl, rfl, by decide⟩, by kernel_rfl⟩
theorem ok17 : ∃ fn, Try.prog.funcs[17]? = some fn ∧ FOk Try.prog md fn F17 ∧ (fn.name == "runtime.NumGoroutine") = false :=
  ⟨Try.f17, Try.func17, ⟨⟨_, rfl, .seq (.plain (by kernel_rfl)) (.seq (.block (.seq (.plain (by kernel_rfl)) (.cond (by kernel_rfl) (.seq (.plain (by kernel_rfl)) (.ret)) (.seq (.plain (by kernel_rfl)) (.cond (by kernel_rfl) (.seq (.plain (by kernel_rfl)) (.ret)) (.skip)))))) (.seq (.plain (by kernel_rfl)) (.seq (.seq (.plain (by kernel_rfl)) (.block (.loop (.seq (.plain (by kernel_rfl)) (.seq (.cond (by kernel_rfl) (.skip) (.exit)) (.seq (.block (.seq (.plain (by kernel_rfl)) (.seq (.plain (by kernel_rfl)) (.block (.loop (.seq (.plain (by kernel_rfl)) (.seq (.cond (by kernel_rfl) (.skip) (.exit)) (.seq (.block (.seq (.plain (by kernel_rfl)) (.seq (.plain (by kernel_rfl)) (.seq (.seq (.plain (by kernel_rfl)) (.block (.loop (.seq (.plain (by kernel_rfl)) (.seq (.cond (by kernel_rfl) (.skip) (.exit)) (.seq (.block (.seq (.plain (by kernel_rfl)) (.plain (by kernel_rfl)))) (.plain (by kernel_rfl)))))))) (.plain (by kernel_rfl)))))) (.plain (by kernel_rfl)))))))))) (.plain (by kernel_rfl)))))))) (.seq (.plain (by kernel_rfl)) (.ret)))))⟩, by kernel_rfl, rfl, by decide⟩, by kernel_rfl⟩
theorem ok18 : ∃ fn, Try.prog.funcs[18]? = some fn ∧ FOk Try.prog md fn F18 ∧ (fn.name == "runtime.NumGoroutine") = false :=
  ⟨Try.f18, Try.func18, ⟨⟨_, rfl, .seq (.plain (by kernel_rfl)) (.seq (.seq (.plain (by kernel_rfl)) (.cond (by kernel_rfl) (.seq (.plain (by kernel_rfl)) (.ret)) (.skip))) (.seq (.seq (.plain (by kernel_rfl)) (.cond (by kernel_rfl) (.seq (.plain (by kernel_rfl)) (.ret)) (.skip))) (.seq (.plain (by kernel_rfl)) (.seq (.draw (b := [0, 0, 0, 6, 15, 31, 63, 127, 0, 0, 512, 0, 3584, 7936, 16128, 32512, 65535, 0, 0, 393216, 1048575, 0, 4194303, 8388607]) (by unfold cIxs; kernel_rfl) (by kernel_rfl) (by kernel_rfl) (by kernel_rfl)) (.ret)))))⟩, by kernel_rfl, rfl, by decide⟩, by kernel_rfl⟩
theorem ok19 : ∃ fn, Try.prog.funcs[19]? = some fn ∧ FOk Try.prog md fn F19 ∧ (fn.name == "runtime.NumGoroutine") = false :=
  ⟨Try.f19, Try.func19, ⟨⟨_, rfl, .seq (.plain (by kernel_rfl)) (.seq (.plain (by kernel_rfl)) (.seq (.seq (.plain (by kernel_rfl)) (.block (.loop (.seq (.seq (.plain (by kernel_rfl)) (.cond (by kernel_rfl) (.skip) (.exit))) (.seq (.block (.seq (.plain (by kernel_rfl)) (.seq (.plain (by kernel_rfl)) (.seq (.plain (by kernel_rfl)) (.cond (by kernel_rfl) (.plain (by kernel_rfl)) (.skip)))))) (.plain (by kernel_rfl))))))) (.seq (.plain (by kernel_rfl)) (.ret))))⟩, by kernel_rfl, rfl, by decide⟩, by kernel_rfl⟩
theorem ok20 : ∃ fn, Try.prog.funcs[20]? = some fn ∧ FOk Try.prog md fn F20 ∧ (fn.name == "runtime.NumGoroutine") = false :=
  ⟨Try.f20, Try.func20, ⟨⟨_, rfl, .seq (.plain (by kernel_rfl)) (.seq (.block (.seq (.plain (by kernel_rfl)) (.cond (by kernel_rfl) (.seq (.plain (by kernel_rfl)) (.ret)) (.seq (.plain (by kernel_rfl)) (.cond (by kernel_rfl) (.seq (.plain (by kernel_rfl)) (.ret)) (.seq (.plain (by kernel_rfl)) (.cond (by kernel_rfl) (.seq (.plain (by kernel_rfl)) (.ret)) (.skip)))))))) (.seq (.plain (by kernel_rfl)) (.ret)))⟩, by kernel_rfl, rfl, by decide⟩, by kernel_rfl⟩
theorem ok21 : ∃ fn, Try.prog.funcs[21]? = some fn ∧ FOk Try.prog md fn F21 ∧ (fn.name == "runtime.NumGoroutine") = false :=
  ⟨Try.f21, Try.func21, ⟨⟨_, rfl, .seq (.plain (by kernel_rfl)) (.seq (.block (.seq (.plain (by kernel_rfl)) (.cond (by kernel_rfl) (.seq (.plain (by kernel_rfl)) (.ret)) (.seq (.plain (by kernel_rfl)) (.cond (by kernel_rfl) (.seq (.plain (by kernel_rfl)) (.ret)) (.skip)))))) (.seq (.plain (by kernel_rfl)) (.seq (.seq (.plain (by kernel_rfl)) (.cond (by kernel_rfl) (.seq (.plain (by kernel_rfl)) (.ret)) (.skip))) (.seq (.plain (by kernel_rfl)) (.ret)))))⟩, by kernel_rfl, rfl, by decide⟩, by kernel_rfl⟩
theorem ok22 : ∃ fn, Try.prog.funcs[22]? = some fn ∧ FOk Try.prog md fn F22 ∧ (fn.name == "runtime.NumGoroutine") = false :=
  ⟨Try.f22, Try.func22, ⟨⟨_, rfl, .seq (.plain (by kernel_rfl)) (.seq (.seq (.plain (by kernel_rfl)) (.cond (by kernel_rfl) (.seq (.plain (by kernel_rfl)) (.ret)) (.skip))) (.seq (.plain (by kernel_rfl)) (.ret)))⟩, by kernel_rfl, rfl, by decide⟩, by kernel_rfl⟩
theorem ok23 : ∃ fn, Try.prog.funcs[23]? = some fn ∧ FOk Try.prog md fn F23 ∧ (fn.name == "runtime.NumGoroutine") = false :=
  ⟨Try.f23, Try.func23, ⟨⟨_, rfl, .seq (.plain (by kernel_rfl)) (.seq (.plain (by kernel_rfl)) (.ret))⟩, by kernel_rfl, rfl, by decide⟩, by kernel_rfl⟩
theorem ok24 : ∃ fn, Try.prog.funcs[24]? = some fn ∧ FOk Try.prog md fn F24 ∧ (fn.name == "runtime.NumGoroutine") = false :=
  ⟨Try.f24, Try.func24, ⟨⟨_, rfl, .seq (.plain (by kernel_rfl)) (.seq (.plain (by kernel_rfl)) (.seq (.plain (by kernel_rfl)) (.ret)))⟩, by kernel_rfl, rfl, by decide⟩, by kernel_rfl⟩
theorem ok25 : ∃ fn, Try.prog.funcs[25]? = some fn ∧ FOk Try.prog md fn F25 ∧ (fn.name == "runtime.NumGoroutine") = false :=
  ⟨Try.f25, Try.func25, ⟨⟨_, rfl, .seq (.plain (by kernel_rfl)) (.seq (.seq (.plain (by kernel_rfl)) (.cond (by kernel_rfl) (.seq (.plain (by kernel_rfl)) (.ret)) (.skip))) (.seq (.plain (by kernel_rfl)) (.ret)))⟩, by kernel_rfl, rfl, by decide⟩, by kernel_rfl⟩
theorem ok26 : ∃ fn, Try.prog.funcs[26]? = some fn ∧ FOk Try.prog md fn F26 ∧ (fn.name == "runtime.NumGoroutine") = false :=
  ⟨Try.f26, Try.func26, ⟨⟨_, rfl, .seq (.plain (by kernel_rfl)) (.seq (.plain (by kernel_rfl)) (.ret))⟩, by kernel_rfl, rfl, by decide⟩, by kernel_rfl⟩
theorem ok27 : ∃ fn, Try.prog.funcs[27]? = some fn ∧ FOk Try.prog md fn F27 ∧ (fn.name == "runtime.NumGoroutine") = false :=
  ⟨Try.f27, Try.func27, ⟨⟨_, rfl, .seq (.plain (by kernel_rfl)) (.seq (.plain (by kernel_rfl)) (.seq (.plain (by kernel_rfl)) (.seq (.plain (by kernel_rfl)) (.ret))))⟩, by kernel_rfl, rfl, by decide⟩, by kernel_rfl⟩
theorem ok28 : ∃ fn, Try.prog.funcs[28]? = some fn ∧ FOk Try.prog md fn F28 ∧ (fn.name == "runtime.NumGoroutine") = false :=
  ⟨Try.f28, Try.func28, ⟨⟨_, rfl, .seq (.plain (by kernel_rfl)) (.seq (.seq (.plain (by kernel_rfl)) (.cond (by kernel_rfl) (.seq (.plain (by kernel_rfl)) (.ret)) (.skip))) (.seq (.seq (.plain (by kernel_rfl)) (.cond (by kernel_rfl) (.seq (.plain (by kernel_rfl)) (.ret)) (.skip))) (.seq (.plain (by kernel_rfl)) (.seq (.seq (.plain (by kernel_rfl)) (.cond (by kernel_rfl) (.seq (.plain (by kernel_rfl)) (.ret)) (.skip))) (.seq (.plain (by kernel_rfl)) (.ret))))))⟩, by kernel_rfl, rfl, by decide⟩, by kernel_rfl⟩
theorem ok30 : ∃ fn, Try.prog.funcs[30]? = some fn ∧ FOk Try.prog md fn F30 ∧ (fn.name == "runtime.NumGoroutine") = false :=
  ⟨Try.f30, Try.func30, ⟨⟨_, rfl, .seq (.plain (by kernel_rfl)) (.seq (.plain (by kernel_rfl)) (.ret))⟩, by kernel_rfl, rfl, by decide⟩, by kernel_rfl⟩
theorem ok31 : ∃ fn, Try.prog.funcs[31]? = some fn ∧ FOk Try.prog md fn F31 ∧ (fn.name == "runtime.NumGoroutine") = false :=
  ⟨Try.f31, Try.func31, ⟨⟨_, rfl, .seq (.plain (by kernel_rfl)) (.seq (.plain (by kernel_rfl)) (.seq (.plain (by kernel_rfl)) (.seq (.seq (.plain (by kernel_rfl)) (.block (.loop (.seq (.plain (by kernel_rfl)) (.seq (.cond (by kernel_rfl) (.skip) (.exit)) (.seq (.block (.seq (.plain (by kernel_rfl)) (.seq (.plain (by kernel_rfl)) (.block (.loop (.seq (.plain (by kernel_rfl)) (.seq (.cond (by kernel_rfl) (.skip) (.exit)) (.seq (.block (.seq (.plain (by kernel_rfl)) (.draw (b := [0, 1, 0, 0, 12, 0, 0, 96, 0, 480, 992, 2044, 4092, 8191, 16383, 32767]) (by unfold cIxs; kernel_rfl) (by kernel_rfl) (by kernel_rfl) (by kernel_rfl)))) (.plain (by kernel_rfl)))))))))) (.plain (by kernel_rfl)))))))) (.seq (.plain (by kernel_rfl)) (.ret)))))⟩, by kernel_rfl, rfl, by decide⟩, by kernel_rfl⟩
theorem ok32 : ∃ fn, Try.prog.funcs[32]? = some fn ∧ FOk Try.prog md fn F32 ∧ (fn.name == "runtime.NumGoroutine") = false :=
  ⟨Try.f32, Try.func32, ⟨⟨_, rfl, .seq (.plain (by kernel_rfl)) (.seq (.seq (.plain (by kernel_rfl)) (.cond (by kernel_rfl) (.seq (.plain (by kernel_rfl)) (.ret)) (.skip))) (.seq (.seq (.plain (by kernel_rfl)) (.block (.loop (.seq (.seq (.plain (by kernel_rfl)) (.cond (by kernel_rfl) (.skip) (.exit))) (.seq (.block (.seq (.draw (b := [0, 0, 3, 7, 0, 0, 48, 112, 255]) (by unfold cIxs; kernel_rfl) (by kernel_rfl) (by kernel_rfl) (by kernel_rfl)) (.cond (by kernel_rfl) (.seq (.plain (by kernel_rfl)) (.ret)) (.skip)))) (.plain (by kernel_rfl))))))) (.seq (.plain (by kernel_rfl)) (.ret))))⟩, by kernel_rfl, rfl, by decide⟩, by kernel_rfl⟩
theorem ok33 : ∃ fn, Try.prog.funcs[33]? = some fn ∧ FOk Try.prog md fn F33 ∧ (fn.name == "runtime.NumGoroutine") = false :=
  ⟨Try.f33, Try.func33, ⟨⟨_, rfl, .seq (.plain (by kernel_rfl)) (.seq (.seq (.plain (by kernel_rfl)) (.block (.loop (.seq (.seq (.plain (by kernel_rfl)) (.cond (by kernel_rfl) (.skip) (.exit))) (.seq (.block (.seq (.plain (by kernel_rfl)) (.plain (by kernel_rfl)))) (.plain (by kernel_rfl))))))) (.seq (.plain (by kernel_rfl)) (.ret)))⟩, by kernel_rfl, rfl, by decide⟩, by kernel_rfl⟩
theorem ok34 : ∃ fn, Try.prog.funcs[34]? = some fn ∧ FOk Try.prog md fn F34 ∧ (fn.name == "runtime.NumGoroutine") = false :=
  ⟨Try.f34, Try.func34, ⟨⟨_, rfl, .seq (.plain (by kernel_rfl)) (.seq (.seq (.plain (by kernel_rfl)) (.block (.loop (.seq (.seq (.plain (by kernel_rfl)) (.cond (by kernel_rfl) (.skip) (.exit))) (.seq (.block (.seq (.seq (.plain (by kernel_rfl)) (.cond (by kernel_rfl) (.seq (.plain (by kernel_rfl)) (.ret)) (.skip))) (.plain (by kernel_rfl)))) (.plain (by kernel_rfl))))))) (.seq (.plain (by kernel_rfl)) (.ret)))⟩, by kernel_rfl, rfl, by decide⟩, by kernel_rfl⟩
theorem ok35 : ∃ fn, Try.prog.funcs[35]? = some fn ∧ FOk Try.prog md fn F35 ∧ (fn.name == "runtime.NumGoroutine") = false :=
  ⟨Try.f35, Try.func35, ⟨⟨_, rfl, .seq (.plain (by kernel_rfl)) (.seq (.plain (by kernel_rfl)) (.seq (.seq (.plain (by kernel_rfl)) (.cond (by kernel_rfl) (.seq (.plain (by kernel_rfl)) (.ret)) (.skip))) (.seq (.plain (by kernel_rfl)) (.ret))))⟩, by kernel_rfl, rfl, by decide⟩, by kernel_rfl⟩
theorem ok36 : ∃ fn, Try.prog.funcs[36]? = some fn ∧ FOk Try.prog md fn F36 ∧ (fn.name == "runtime.NumGoroutine") = false :=
  ⟨Try.f36, Try.func36, ⟨⟨_, rfl, .seq (.plain (by kernel_rfl)) (.seq (.seq (.plain (by kernel_rfl)) (.cond (by kernel_rfl) (.seq (.plain (by kernel_rfl)) (.ret)) (.skip))) (.seq (.seq (.plain (by kernel_rfl)) (.block (.loop (.seq (.seq (.plain (by kernel_rfl)) (.cond (by kernel_rfl) (.skip) (.exit))) (.seq (.block (.seq (.plain (by kernel_rfl)) (.cond (by kernel_rfl) (.seq (.plain (by kernel_rfl)) (.ret)) (.skip)))) (.plain (by kernel_rfl))))))) (.seq (.plain (by kernel_rfl)) (.ret))))⟩, by kernel_rfl, rfl, by decide⟩, by kernel_rfl⟩
theorem ok38 : ∃ fn, Try.prog.funcs[38]? = some fn ∧ FOk Try.prog md fn F38 ∧ (fn.name == "runtime.NumGoroutine") = false :=
  ⟨Try.f38, Try.func38, ⟨⟨_, rfl, .seq (.plain (by kernel_rfl)) (.seq (.plain (by kernel_rfl)) (.seq (.seq (.plain (by kernel_rfl)) (.block (.loop (.seq (.seq (.plain (by kernel_rfl)) (.cond (by kernel_rfl) (.skip) (.exit))) (.seq (.block (.plain (by kernel_rfl))) (.plain (by kernel_rfl))))))) (.seq (.plain (by kernel_rfl)) (.ret))))⟩, by kernel_rfl, rfl, by decide⟩, by kernel_rfl⟩
theorem ok39 : ∃ fn, Try.prog.funcs[39]? = some fn ∧ FOk Try.prog md fn F39 ∧ (fn.name == "runtime.NumGoroutine") = false :=
  ⟨Try.f39, Try.func39, ⟨⟨_, rfl, .seq (.plain (by kernel_rfl)) (.seq (.plain (by kernel_rfl)) (.ret))⟩, by kernel_rfl, rfl, by decide⟩, by kernel_rfl⟩
theorem ok40 : ∃ fn, Try.prog.funcs[40]? = some fn ∧ FOk Try.prog md fn F40 ∧ (fn.name == "runtime.NumGoroutine") = false :=
  ⟨Try.f40, Try.func40, ⟨⟨_, rfl, .seq (.plain (by kernel_rfl)) (.seq (.plain (by kernel_rfl)) (.ret))⟩, by kernel_rfl, rfl, by decide⟩, by kernel_rfl⟩
theorem ok41 : ∃ fn, Try.prog.funcs[41]? = some fn ∧ FOk Try.prog md fn F41 ∧ (fn.name == "runtime.NumGoroutine") = false :=
  ⟨Try.f41, Try.func41, ⟨⟨_, rfl, .seq (.plain (by kernel_rfl)) (.seq (.plain (by kernel_rfl)) (.seq (.block (.loop (.seq (.seq (.plain (by kernel_rfl)) (.cond (by kernel_rfl) (.skip) (.exit))) (.seq (.block (.seq (.seq (.plain (by kernel_rfl)) (.cond (by kernel_rfl) (.plain (by kernel_rfl)) (.skip))) (.plain (by kernel_rfl)))) (.plain (by kernel_rfl)))))) (.seq (.plain (by kernel_rfl)) (.ret))))⟩, by kernel_rfl, rfl, by decide⟩, by kernel_rfl⟩
theorem ok42 : ∃ fn, Try.prog.funcs[42]? = some fn ∧ FOk Try.prog md fn F42 ∧ (fn.name == "runtime.NumGoroutine") = false :=
  ⟨Try.f42, Try.func42, ⟨⟨_, rfl, .seq (.plain (by kernel_rfl)) (.seq (.plain (by kernel_rfl)) (.ret))⟩, by kernel_rfl, rfl, by decide⟩, by kernel_rfl⟩
theorem ok43 : ∃ fn, Try.prog.funcs[43]? = some fn ∧ FOk Try.prog md fn F43 ∧ (fn.name == "runtime.NumGoroutine") = false :=
  ⟨Try.f43, Try.func43, ⟨⟨_, rfl, .seq (.plain (by kernel_rfl)) (.seq (.plain (by kernel_rfl)) (.ret))⟩, by kernel_rfl, rfl, by decide⟩, by kernel_rfl⟩
theorem ok44 : ∃ fn, Try.prog.funcs[44]? = some fn ∧ FOk Try.prog md fn F44 ∧ (fn.name == "runtime.NumGoroutine") = false :=
  ⟨Try.f44, Try.func44, ⟨⟨_, rfl, .seq (.plain (by kernel_rfl)) (.seq (.plain (by kernel_rfl)) (.seq (.seq (.plain (by kernel_rfl)) (.block (.loop (.seq (.plain (by kernel_rfl)) (.seq (.cond (by kernel_rfl) (.skip) (.exit)) (.seq (.block (.seq (.plain (by kernel_rfl)) (.draw (b := [0, 1, 0, 0, 12, 31, 63, 127]) (by unfold cIxs; kernel_rfl) (by kernel_rfl) (by kernel_rfl) (by kernel_rfl)))) (.plain (by kernel_rfl)))))))) (.seq (.plain (by kernel_rfl)) (.ret))))⟩, by kernel_rfl, rfl, by decide⟩, by kernel_rfl⟩
theorem ok45 : ∃ fn, Try.prog.funcs[45]? = some fn ∧ FOk Try.prog md fn F45 ∧ (fn.name == "runtime.NumGoroutine") = false :=
  ⟨Try.f45, Try.func45, ⟨⟨_, rfl, .seq (.plain (by kernel_rfl)) (.seq (.draw (b := [0, 1, 0, 4, 0, 16, 48, 127, 0, 511]) (by unfold cIxs; kernel_rfl) (by kernel_rfl) (by kernel_rfl) (by kernel_rfl)) (.seq (.plain (by kernel_rfl)) (.seq (.seq (.plain (by kernel_rfl)) (.block (.loop (.seq (.plain (by kernel_rfl)) (.seq (.cond (by kernel_rfl) (.skip) (.exit)) (.seq (.block (.seq (.plain (by kernel_rfl)) (.seq (.seq (.plain (by kernel_rfl)) (.block (.loop (.seq (.seq (.plain (by kernel_rfl)) (.cond (by kernel_rfl) (.skip) (.exit))) (.seq (.block (.seq (.seq (.plain (by kernel_rfl)) (.cond (by kernel_rfl) (.seq (.plain (by kernel_rfl)) (.ret)) (.skip))) (.seq (.plain (by kernel_rfl)) (.cond (by kernel_rfl) (.seq (.draw (b := [0, 0, 3, 0, 0, 31, 63]) (by unfold cIxs; kernel_rfl) (by kernel_rfl) (by kernel_rfl) (by kernel_rfl)) (.draw (b := [0, 0, 3, 0, 0, 31, 63]) (by unfold cIxs; kernel_rfl) (by kernel_rfl) (by kernel_rfl) (by kernel_rfl))) (.skip))))) (.plain (by kernel_rfl))))))) (.seq (.plain (by kernel_rfl)) (.seq (.draw (b := [0, 0, 3, 0, 0, 31, 63, 0, 255]) (by unfold cIxs; kernel_rfl) (by kernel_rfl) (by kernel_rfl) (by kernel_rfl)) (.seq (.draw (b := [0, 0, 3, 0, 0, 31, 63, 0, 255]) (by unfold cIxs; kernel_rfl) (by kernel_rfl) (by kernel_rfl) (by kernel_rfl)) (.seq (.plain (by kernel_rfl)) (.block (.loop (.seq (.plain (by kernel_rfl)) (.seq (.cond (by kernel_rfl) (.skip) (.exit)) (.seq (.block (.seq (.plain (by kernel_rfl)) (.seq (.plain (by kernel_rfl)) (.seq (.plain (by kernel_rfl)) (.cond (by kernel_rfl) (.seq (.draw (b := [0, 0, 3, 0, 0, 31, 0, 127]) (by unfold cIxs; kernel_rfl) (by kernel_rfl) (by kernel_rfl) (by kernel_rfl)) (.draw (b := [0, 0, 3, 0, 0, 31, 0, 127]) (by unfold cIxs; kernel_rfl) (by kernel_rfl) (by kernel_rfl) (by kernel_rfl))) (.skip)))))) (.plain (by kernel_rfl)))))))))))))) (.plain (by kernel_rfl)))))))) (.seq (.plain (by kernel_rfl)) (.ret)))))⟩, by kernel_rfl, rfl, by decide⟩, by kernel_rfl⟩
theorem ok46 : ∃ fn, Try.prog.funcs[46]? = some fn ∧ FOk Try.prog md fn F46 ∧ (fn.name == "runtime.NumGoroutine") = false :=
  ⟨Try.f46, Try.func46, ⟨⟨_, rfl, .seq (.plain (by kernel_rfl)) (.seq (.plain (by kernel_rfl)) (.seq (.seq (.plain (by kernel_rfl)) (.block (.loop (.seq (.plain (by kernel_rfl)) (.seq (.cond (by kernel_rfl) (.skip) (.exit)) (.seq (.block (.seq (.plain (by kernel_rfl)) (.plain (by kernel_rfl)))) (.plain (by kernel_rfl)))))))) (.seq (.plain (by kernel_rfl)) (.ret))))⟩, by kernel_rfl, rfl, by decide⟩, by kernel_rfl⟩
theorem ok47 : ∃ fn, Try.prog.funcs[47]? = some fn ∧ FOk Try.prog md fn F47 ∧ (fn.name == "runtime.NumGoroutine") = false :=
  ⟨Try.f47, Try.func47, ⟨⟨_, rfl, .seq (.plain (by kernel_rfl)) (.seq (.seq (.plain (by kernel_rfl)) (.cond (by kernel_rfl) (.seq (.plain (by kernel_rfl)) (.ret)) (.skip))) (.seq (.seq (.plain (by kernel_rfl)) (.block (.loop (.seq (.plain (by kernel_rfl)) (.seq (.cond (by kernel_rfl) (.skip) (.exit)) (.seq (.block (.seq (.plain (by kernel_rfl)) (.seq (.draw (b := [0, 0, 3, 7, 0, 0, 48, 112, 255]) (by unfold cIxs; kernel_rfl) (by kernel_rfl) (by kernel_rfl) (by kernel_rfl)) (.cond (by kernel_rfl) (.seq (.plain (by kernel_rfl)) (.ret)) (.skip))))) (.plain (by kernel_rfl)))))))) (.seq (.plain (by kernel_rfl)) (.ret))))⟩, by kernel_rfl, rfl, by decide⟩, by kernel_rfl⟩
theorem ok48 : ∃ fn, Try.prog.funcs[48]? = some fn ∧ FOk Try.prog md fn F48 ∧ (fn.name == "runtime.NumGoroutine") = false :=
  ⟨Try.f48, Try.func48, ⟨⟨_, rfl, .seq (.plain (by kernel_rfl)) (.seq (.plain (by kernel_rfl)) (.seq (.plain (by kernel_rfl)) (.ret)))⟩, by kernel_rfl, rfl, by decide⟩, by kernel_rfl⟩
theorem ok49 : ∃ fn, Try.prog.funcs[49]? = some fn ∧ FOk Try.prog md fn F49 ∧ (fn.name == "runtime.NumGoroutine") = false :=
  ⟨Try.f49, Try.func49, ⟨⟨_, rfl, .seq (.plain (by kernel_rfl)) (.seq (.plain (by kernel_rfl)) (.ret))⟩, by kernel_rfl, rfl, by decide⟩, by kernel_rfl⟩
theorem ok50 : ∃ fn, Try.prog.funcs[50]? = some fn ∧ FOk Try.prog md fn F50 ∧ (fn.name == "runtime.NumGoroutine") = false :=
  ⟨Try.f50, Try.func50, ⟨⟨_, rfl, .seq (.plain (by kernel_rfl)) (.seq (.plain (by kernel_rfl)) (.seq (.plain (by kernel_rfl)) (.seq (.plain (by kernel_rfl)) (.seq (.seq (.plain (by kernel_rfl)) (.block (.loop (.seq (.plain (by kernel_rfl)) (.seq (.cond (by kernel_rfl) (.skip) (.exit)) (.seq (.block (.seq (.plain (by kernel_rfl)) (.plain (by kernel_rfl)))) (.plain (by kernel_rfl)))))))) (.seq (.plain (by kernel_rfl)) (.ret))))))⟩, by kernel_rfl, rfl, by decide⟩, by kernel_rfl⟩
theorem ok51 : ∃ fn, Try.prog.funcs[51]? = some fn ∧ FOk Try.prog md fn F51 ∧ (fn.name == "runtime.NumGoroutine") = false :=
  ⟨Try.f51, Try.func51, ⟨⟨_, rfl, .seq (.plain (by kernel_rfl)) (.seq (.plain (by kernel_rfl)) (.ret))⟩, by kernel_rfl, rfl, by decide⟩, by kernel_rfl⟩
theorem ok52 : ∃ fn, Try.prog.funcs[52]? = some fn ∧ FOk Try.prog md fn F52 ∧ (fn.name == "runtime.NumGoroutine") = false :=
  ⟨Try.f52, Try.func52, ⟨⟨_, rfl, .seq (.plain (by kernel_rfl)) (.seq (.seq (.plain (by kernel_rfl)) (.cond (by kernel_rfl) (.seq (.plain (by kernel_rfl)) (.ret)) (.skip))) (.seq (.plain (by kernel_rfl)) (.seq (.seq (.plain (by kernel_rfl)) (.cond (by kernel_rfl) (.plain (by kernel_rfl)) (.skip))) (.seq (.plain (by kernel_rfl)) (.ret)))))⟩, by kernel_rfl, rfl, by decide⟩, by kernel_rfl⟩
theorem ok53 : ∃ fn, Try.prog.funcs[53]? = some fn ∧ FOk Try.prog md fn F53 ∧ (fn.name == "runtime.NumGoroutine") = false :=
  ⟨Try.f53, Try.func53, ⟨⟨_, rfl, .seq (.plain (by kernel_rfl)) (.seq (.plain (by kernel_rfl)) (.seq (.seq (.plain (by kernel_rfl)) (.block (.loop (.seq (.seq (.plain (by kernel_rfl)) (.cond (by kernel_rfl) (.skip) (.exit))) (.seq (.block (.draw (b := [0, 1, 0, 0, 8, 0, 56, 120, 252, 508, 1023, 2047, 4095]) (by unfold cIxs; kernel_rfl) (by kernel_rfl) (by kernel_rfl) (by kernel_rfl))) (.plain (by kernel_rfl))))))) (.seq (.plain (by kernel_rfl)) (.ret))))⟩, by kernel_rfl, rfl, by decide⟩, by kernel_rfl⟩
theorem ok54 : ∃ fn, Try.prog.funcs[54]? = some fn ∧ FOk Try.prog md fn F54 ∧ (fn.name == "runtime.NumGoroutine") = false :=
  ⟨Try.f54, Try.func54, ⟨⟨_, rfl, .seq (.plain (by kernel_rfl)) (.seq (.plain (by kernel_rfl)) (.seq (.plain (by kernel_rfl)) (.seq (.plain (by kernel_rfl)) (.seq (.seq (.plain (by kernel_rfl)) (.block (.loop (.seq (.seq (.plain (by kernel_rfl)) (.cond (by kernel_rfl) (.skip) (.exit))) (.seq (.block (.seq (.plain (by kernel_rfl)) (.seq (.block (.loop (.seq (.seq (.plain (by kernel_rfl)) (.cond (by kernel_rfl) (.skip) (.exit))) (.block (.plain (by kernel_rfl)))))) (.seq (.seq (.plain (by kernel_rfl)) (.cond (by kernel_rfl) (.seq (.plain (by kernel_rfl)) (.ret)) (.skip))) (.seq (.plain (by kernel_rfl)) (.seq (.plain (by kernel_rfl)) (.plain (by kernel_rfl)))))))) (.plain (by kernel_rfl))))))) (.seq (.plain (by kernel_rfl)) (.ret))))))⟩, by kernel_rfl, rfl, by decide⟩, by kernel_rfl⟩
theorem ok55 : ∃ fn, Try.prog.funcs[55]? = some fn ∧ FOk Try.prog md fn F55 ∧ (fn.name == "runtime.NumGoroutine") = false :=
  ⟨Try.f55, Try.func55, ⟨⟨_, rfl, .seq (.plain (by kernel_rfl)) (.seq (.plain (by kernel_rfl)) (.seq (.seq (.plain (by kernel_rfl)) (.block (.loop (.seq (.seq (.plain (by kernel_rfl)) (.cond (by kernel_rfl) (.skip) (.exit))) (.seq (.block (.seq (.plain (by kernel_rfl)) (.cond (by kernel_rfl) (.plain (by kernel_rfl)) (.plain (by kernel_rfl))))) (.plain (by kernel_rfl))))))) (.seq (.plain (by kernel_rfl)) (.ret))))⟩, by kernel_rfl, rfl, by decide⟩, by kernel_rfl⟩
theorem ok56 : ∃ fn, Try.prog.funcs[56]? = some fn ∧ FOk Try.prog md fn F56 ∧ (fn.name == "runtime.NumGoroutine") = false :=
  ⟨Try.f56, Try.func56, ⟨⟨_, rfl, .seq (.plain (by kernel_rfl)) (.seq (.plain (by kernel_rfl)) (.seq (.seq (.plain (by kernel_rfl)) (.block (.loop (.seq (.seq (.plain (by kernel_rfl)) (.cond (by kernel_rfl) (.skip) (.exit))) (.seq (.block (.seq (.seq (.plain (by kernel_rfl)) (.cond (by kernel_rfl) (.plain (by kernel_rfl)) (.skip))) (.seq (.plain (by kernel_rfl)) (.seq (.plain (by kernel_rfl)) (.seq (.plain (by kernel_rfl)) (.cond (by kernel_rfl) (.plain (by kernel_rfl)) (.skip))))))) (.plain (by kernel_rfl))))))) (.seq (.plain (by kernel_rfl)) (.ret))))⟩, by kernel_rfl, rfl, by decide⟩, by kernel_rfl⟩
theorem ok57 : ∃ fn, Try.prog.funcs[57]? = some fn ∧ FOk Try.prog md fn F57 ∧ (fn.name == "runtime.NumGoroutine") = false :=
  ⟨Try.f57, Try.func57, ⟨⟨_, rfl, .seq (.plain (by kernel_rfl)) (.seq (.plain (by kernel_rfl)) (.ret))⟩, by kernel_rfl, rfl, by decide⟩, by kernel_rfl⟩
theorem ok58 : ∃ fn, Try.prog.funcs[58]? = some fn ∧ FOk Try.prog md fn F58 ∧ (fn.name == "runtime.NumGoroutine") = false :=
  ⟨Try.f58, Try.func58, ⟨⟨_, rfl, .seq (.plain (by kernel_rfl)) (.seq (.plain (by kernel_rfl)) (.ret))⟩, by kernel_rfl, rfl, by decide⟩, by kernel_rfl⟩
theorem ok59 : ∃ fn, Try.prog.funcs[59]? = some fn ∧ FOk Try.prog md fn F59 ∧ (fn.name == "runtime.NumGoroutine") = false :=
  ⟨Try.f59, Try.func59, ⟨⟨_, rfl, .seq (.plain (by kernel_rfl)) (.seq (.plain (by kernel_rfl)) (.ret))⟩, by kernel_rfl, rfl, by decide⟩, by kernel_rfl⟩
theorem ok60 : ∃ fn, Try.prog.funcs[60]? = some fn ∧ FOk Try.prog md fn F60 ∧ (fn.name == "runtime.NumGoroutine") = false :=
  ⟨Try.f60, Try.func60, ⟨⟨_, rfl, .seq (.plain (by kernel_rfl)) (.seq (.plain (by kernel_rfl)) (.ret))⟩, by kernel_rfl, rfl, by decide⟩, by kernel_rfl⟩
theorem ok61 : ∃ fn, Try.prog.funcs[61]? = some fn ∧ FOk Try.prog md fn F61 ∧ (fn.name == "runtime.NumGoroutine") = false :=
  ⟨Try.f61, Try.func61, ⟨⟨_, rfl, .seq (.plain (by kernel_rfl)) (.seq (.plain (by kernel_rfl)) (.ret))⟩, by kernel_rfl, rfl, by decide⟩, by kernel_rfl⟩
theorem ok62 : ∃ fn, Try.prog.funcs[62]? = some fn ∧ FOk Try.prog md fn F62 ∧ (fn.name == "runtime.NumGoroutine") = false :=
  ⟨Try.f62, Try.func62, ⟨⟨_, rfl, .seq (.plain (by kernel_rfl)) (.seq (.plain (by kernel_rfl)) (.ret))⟩, by kernel_rfl, rfl, by decide⟩, by kernel_rfl⟩
theorem ok63 : ∃ fn, Try.prog.funcs[63]? = some fn ∧ FOk Try.prog md fn F63 ∧ (fn.name == "runtime.NumGoroutine") = false :=
  ⟨Try.f63, Try.func63, ⟨⟨_, rfl, .seq (.plain (by kernel_rfl)) (.seq (.plain (by kernel_rfl)) (.seq (.seq (.plain (by kernel_rfl)) (.cond (by kernel_rfl) (.plain (by kernel_rfl)) (.skip))) (.seq (.plain (by kernel_rfl)) (.ret))))⟩, by kernel_rfl, rfl, by decide⟩, by kernel_rfl⟩
theorem ok64 : ∃ fn, Try.prog.funcs[64]? = some fn ∧ FOk Try.prog md fn F64 ∧ (fn.name == "runtime.NumGoroutine") = false :=
  ⟨Try.f64, Try.func64, ⟨⟨_, rfl, .seq (.plain (by kernel_rfl)) (.seq (.seq (.plain (by kernel_rfl)) (.block (.loop (.seq (.plain (by kernel_rfl)) (.seq (.cond (by kernel_rfl) (.skip) (.exit)) (.seq (.block (.seq (.plain (by kernel_rfl)) (.seq (.plain (by kernel_rfl)) (.cond (by kernel_rfl) (.seq (.plain (by kernel_rfl)) (.ret)) (.skip))))) (.plain (by kernel_rfl)))))))) (.seq (.plain (by kernel_rfl)) (.ret)))⟩, by kernel_rfl, rfl, by decide⟩, by kernel_rfl⟩
theorem ok65 : ∃ fn, Try.prog.funcs[65]? = some fn ∧ FOk Try.prog md fn F65 ∧ (fn.name == "runtime.NumGoroutine") = false :=
  ⟨Try.f65, Try.func65, ⟨⟨_, rfl, .seq (.plain (by kernel_rfl)) (.seq (.ifnil (e := 2) (by rfl) (by kernel_rfl) (by rfl) (by simp) (by kernel_rfl) (by kernel_rfl) (by rfl) (by rfl) (.seq (.plain (by kernel_rfl)) (.ret)) (.skip)) (.seq (.plain (by kernel_rfl)) (.ret)))⟩, by kernel_rfl, rfl, by decide⟩, by kernel_rfl⟩
theorem ok66 : ∃ fn, Try.prog.funcs[66]? = some fn ∧ FOk Try.prog md fn F66 ∧ (fn.name == "runtime.NumGoroutine") = false :=
  ⟨Try.f66, Try.func66, ⟨⟨_, rfl, .seq (.plain (by kernel_rfl)) (.block (.loop (.seq (.plain (by kernel_rfl)) (.seq (.cond (by kernel_rfl) (.skip) (.exit)) (.seq (.block (.seq (.plain (by kernel_rfl)) (.draw (b := [0, 0, 3, 7, 0, 0, 48, 127, 255, 511]) (by unfold cIxs; kernel_rfl) (by kernel_rfl) (by kernel_rfl) (by kernel_rfl)))) (.plain (by kernel_rfl)))))))⟩, by kernel_rfl, rfl, by decide⟩, by kernel_rfl⟩
theorem ok67 : ∃ fn, Try.prog.funcs[67]? = some fn ∧ FOk Try.prog md fn F67 ∧ (fn.name == "runtime.NumGoroutine") = false :=
  ⟨Try.f67, Try.func67, ⟨⟨_, rfl, .seq (.plain (by kernel_rfl)) (.seq (.plain (by kernel_rfl)) (.seq (.seq (.plain (by kernel_rfl)) (.block (.loop (.seq (.seq (.plain (by kernel_rfl)) (.cond (by kernel_rfl) (.skip) (.exit))) (.seq (.block (.plain (by kernel_rfl))) (.plain (by kernel_rfl))))))) (.seq (.plain (by kernel_rfl)) (.ret))))⟩, by kernel_rfl, rfl, by decide⟩, by kernel_rfl⟩
theorem ok68 : ∃ fn, Try.prog.funcs[68]? = some fn ∧ FOk Try.prog md fn F68 ∧ (fn.name == "runtime.NumGoroutine") = false :=
  ⟨Try.f68, Try.func68, ⟨⟨_, rfl, .seq (.plain (by kernel_rfl)) (.seq (.plain (by kernel_rfl)) (.ret))⟩, by kernel_rfl, rfl, by decide⟩, by kernel_rfl⟩
theorem ok70 : ∃ fn, Try.prog.funcs[70]? = some fn ∧ FOk Try.prog md fn F70 ∧ (fn.name == "runtime.NumGoroutine") = false :=
  ⟨Try.f70, Try.func70, ⟨⟨_, rfl, .seq (.plain (by kernel_rfl)) (.seq (.plain (by kernel_rfl)) (.ret))⟩, by kernel_rfl, rfl, by decide⟩, by kernel_rfl⟩
theorem ok71 : ∃ fn, Try.prog.funcs[71]? = some fn ∧ FOk Try.prog md fn F71 ∧ (fn.name == "runtime.NumGoroutine") = false :=
  ⟨Try.f71, Try.func71, ⟨⟨_, rfl, .seq (.plain (by kernel_rfl)) (.seq (.plain (by kernel_rfl)) (.seq (.seq (.draw (b := [0, 1, 3, 7, 0, 16, 48, 112, 240, 511]) (by unfold cIxs; kernel_rfl) (by kernel_rfl) (by kernel_rfl) (by kernel_rfl)) (.cond (by kernel_rfl) (.draw (b := [0, 1, 3, 7, 0, 16, 48, 112, 255, 511, 1023, 2047]) (by unfold cIxs; kernel_rfl) (by kernel_rfl) (by kernel_rfl) (by kernel_rfl)) (.skip))) (.seq (.plain (by kernel_rfl)) (.seq (.plain (by kernel_rfl)) (.seq (.seq (.draw (b := [0, 1, 3, 7, 0, 16, 48, 112, 240, 511]) (by unfold cIxs; kernel_rfl) (by kernel_rfl) (by kernel_rfl) (by kernel_rfl)) (.cond (by kernel_rfl) (.seq (.plain (by kernel_rfl)) (.ret)) (.skip))) (.seq (.plain (by kernel_rfl)) (.ret)))))))⟩, by kernel_rfl, rfl, by decide⟩, by kernel_rfl⟩
theorem ok72 : ∃ fn, Try.prog.funcs[72]? = some fn ∧ FOk Try.prog md fn F72 ∧ (fn.name == "runtime.NumGoroutine") = false :=
  ⟨Try.f72, Try.func72, ⟨⟨_, rfl, .seq (.plain (by kernel_rfl)) (.seq (.plain (by kernel_rfl)) (.ret))⟩, by kernel_rfl, rfl, by decide⟩, by kernel_rfl⟩
theorem ok73 : ∃ fn, Try.prog.funcs[73]? = some fn ∧ FOk Try.prog md fn F73 ∧ (fn.name == "runtime.NumGoroutine") = false :=
  ⟨Try.f73, Try.func73, ⟨⟨_, rfl, .seq (.plain (by kernel_rfl)) (.seq (.plain (by kernel_rfl)) (.ret))⟩, by kernel_rfl, rfl, by decide⟩, by kernel_rfl⟩
theorem ok74 : ∃ fn, Try.prog.funcs[74]? = some fn ∧ FOk Try.prog md fn F74 ∧ (fn.name == "runtime.NumGoroutine") = false :=
  ⟨Try.f74, Try.func74, ⟨⟨_, rfl, .seq (.plain (by kernel_rfl)) (.block (.loop (.seq (.seq (.plain (by kernel_rfl)) (.cond (by kernel_rfl) (.skip) (.exit))) (.seq (.block (.seq (.plain (by kernel_rfl)) (.seq (.plain (by kernel_rfl)) (.plain (by kernel_rfl))))) (.plain (by kernel_rfl))))))⟩, by kernel_rfl, rfl, by decide⟩, by kernel_rfl⟩
theorem ok75 : ∃ fn, Try.prog.funcs[75]? = some fn ∧ FOk Try.prog md fn F75 ∧ (fn.name == "runtime.NumGoroutine") = false :=
  ⟨Try.f75, Try.func75, ⟨⟨_, rfl, .seq (.plain (by kernel_rfl)) (.seq (.seq (.plain (by kernel_rfl)) (.block (.loop (.seq (.seq (.plain (by kernel_rfl)) (.cond (by kernel_rfl) (.skip) (.exit))) (.seq (.block (.seq (.plain (by kernel_rfl)) (.plain (by kernel_rfl)))) (.plain (by kernel_rfl))))))) (.seq (.plain (by kernel_rfl)) (.block (.loop (.seq (.seq (.plain (by kernel_rfl)) (.cond (by kernel_rfl) (.skip) (.exit))) (.seq (.block (.seq (.plain (by kernel_rfl)) (.seq (.seq (.plain (by kernel_rfl)) (.cond (by kernel_rfl) (.exit) (.skip))) (.seq (.plain (by kernel_rfl)) (.block (.loop (.seq (.seq (.plain (by kernel_rfl)) (.cond (by kernel_rfl) (.skip) (.exit))) (.seq (.block (.seq (.draw (b := [0, 0, 0, 6, 0, 30, 63, 127, 0, 0, 0, 0, 3072, 0, 15360, 32256, 65024, 130816, 262143, 524287, 1048575]) (by unfold cIxs; kernel_rfl) (by kernel_rfl) (by kernel_rfl) (by kernel_rfl)) (.draw (b := [0, 0, 0, 6, 0, 30, 63, 127, 0, 0, 0, 0, 3072, 0, 15360, 32256, 65024, 130816, 262143, 524287, 1048575]) (by unfold cIxs; kernel_rfl) (by kernel_rfl) (by kernel_rfl) (by kernel_rfl)))) (.plain (by kernel_rfl)))))))))) (.plain (by kernel_rfl))))))))⟩, by kernel_rfl, rfl, by decide⟩, by kernel_rfl⟩
theorem ok76 : ∃ fn, Try.prog.funcs[76]? = some fn ∧ FOk Try.prog md fn F76 ∧ (fn.name == "runtime.NumGoroutine") = false :=
  ⟨Try.f76, Try.func76, ⟨⟨_, rfl, .seq (.plain (by kernel_rfl)) (.seq (.plain (by kernel_rfl)) (.seq (.block (.loop (.seq (.seq (.plain (by kernel_rfl)) (.cond (by kernel_rfl) (.skip) (.exit))) (.block (.seq (.seq (.plain (by kernel_rfl)) (.cond (by kernel_rfl) (.plain (by kernel_rfl)) (.skip))) (.seq (.plain (by kernel_rfl)) (.plain (by kernel_rfl)))))))) (.seq (.plain (by kernel_rfl)) (.ret))))⟩, by kernel_rfl, rfl, by decide⟩, by kernel_rfl⟩
theorem ok77 : ∃ fn, Try.prog.funcs[77]? = some fn ∧ FOk Try.prog md fn F77 ∧ (fn.name == "runtime.NumGoroutine") = false :=
  ⟨Try.f77, Try.func77, ⟨⟨_, rfl, .seq (.plain (by kernel_rfl)) (.seq (.plain (by kernel_rfl)) (.seq (.block (.loop (.seq (.seq (.plain (by kernel_rfl)) (.cond (by kernel_rfl) (.skip) (.exit))) (.seq (.block (.seq (.seq (.plain (by kernel_rfl)) (.cond (by kernel_rfl) (.plain (by kernel_rfl)) (.skip))) (.plain (by kernel_rfl)))) (.plain (by kernel_rfl)))))) (.seq (.plain (by kernel_rfl)) (.ret))))⟩, by kernel_rfl, rfl, by decide⟩, by kernel_rfl⟩
theorem ok84 : ∃ fn, Try.prog.funcs[84]? = some fn ∧ FOk Try.prog md fn F84 ∧ (fn.name == "runtime.NumGoroutine") = false :=
  ⟨Try.f84, Try.func84, ⟨⟨_, rfl, .seq (.plain (by kernel_rfl)) (.seq (.plain (by kernel_rfl)) (.seq (.seq (.plain (by kernel_rfl)) (.block (.loop (.seq (.plain (by kernel_rfl)) (.seq (.cond (by kernel_rfl) (.skip) (.exit)) (.seq (.block (.seq (.plain (by kernel_rfl)) (.seq (.plain (by kernel_rfl)) (.seq (.seq (.plain (by kernel_rfl)) (.block (.loop (.seq (.plain (by kernel_rfl)) (.seq (.cond (by kernel_rfl) (.skip) (.exit)) (.seq (.block (.seq (.plain (by kernel_rfl)) (.plain (by kernel_rfl)))) (.plain (by kernel_rfl)))))))) (.plain (by kernel_rfl)))))) (.plain (by kernel_rfl)))))))) (.seq (.plain (by kernel_rfl)) (.ret))))⟩, by kernel_rfl, rfl, by decide⟩, by kernel_rfl⟩
theorem ok90 : ∃ fn, Try.prog.funcs[90]? = some fn ∧ FOk Try.prog md fn F90 ∧ (fn.name == "runtime.NumGoroutine") = false :=
  ⟨Try.f90, Try.func90, ⟨⟨_, rfl, .seq (.plain (by kernel_rfl)) (.seq (.plain (by kernel_rfl)) (.seq (.seq (.plain (by kernel_rfl)) (.block (.loop (.seq (.plain (by kernel_rfl)) (.seq (.cond (by kernel_rfl) (.skip) (.exit)) (.seq (.block (.seq (.plain (by kernel_rfl)) (.draw (b := [0, 0, 0, 0, 12, 0, 0, 96, 252, 511, 1023]) (by unfold cIxs; kernel_rfl) (by kernel_rfl) (by kernel_rfl) (by kernel_rfl)))) (.plain (by kernel_rfl)))))))) (.seq (.plain (by kernel_rfl)) (.ret))))⟩, by kernel_rfl, rfl, by decide⟩, by kernel_rfl⟩
theorem ok91 : ∃ fn, Try.prog.funcs[91]? = some fn ∧ FOk Try.prog md fn F91 ∧ (fn.name == "runtime.NumGoroutine") = false :=
  ⟨Try.f91, Try.func91, ⟨⟨_, rfl, .seq (.plain (by kernel_rfl)) (.seq (.plain (by kernel_rfl)) (.seq (.seq (.plain (by kernel_rfl)) (.block (.loop (.seq (.plain (by kernel_rfl)) (.seq (.cond (by kernel_rfl) (.skip) (.exit)) (.seq (.block (.seq (.plain (by kernel_rfl)) (.plain (by kernel_rfl)))) (.plain (by kernel_rfl)))))))) (.seq (.plain (by kernel_rfl)) (.ret))))⟩, by kernel_rfl, rfl, by decide⟩, by kernel_rfl⟩
set_option maxRecDepth 100000 in
theorem progOk : ProgOk Try.prog code where
  fn := fun f F _ h => by
    simp only [code, fns] at h
    split at h
    · cases h; exact ok5
    · cases h; exact ok6
    · cases h; exact ok7
    · cases h; exact ok8
    · cases h; exact ok10
    · cases h; exact ok11
    · cases h; exact ok12
    · cases h; exact ok13
    · cases h; exact ok14
    · cases h; exact ok16
    · cases h; exact ok17
    · cases h; exact ok18
    · cases h; exact ok19
    · cases h; exact ok20
    · cases h; exact ok21
    · cases h; exact ok22
    · cases h; exact ok23
    · cases h; exact ok24
    · cases h; exact ok25
    · cases h; exact ok26
    · cases h; exact ok27
    · cases h; exact ok28
    · cases h; exact ok30
    · cases h; exact ok31
    · cases h; exact ok32
    · cases h; exact ok33
    · cases h; exact ok34
    · cases h; exact ok35
    · cases h; exact ok36
    · cases h; exact ok38
    · cases h; exact ok39
    · cases h; exact ok40
    · cases h; exact ok41
    · cases h; exact ok42
    · cases h; exact ok43
    · cases h; exact ok44
    · cases h; exact ok45
    · cases h; exact ok46
    · cases h; exact ok47
    · cases h; exact ok48
    · cases h; exact ok49
    · cases h; exact ok50
    · cases h; exact ok51
    · cases h; exact ok52
    · cases h; exact ok53
    · cases h; exact ok54
    · cases h; exact ok55
    · cases h; exact ok56
    · cases h; exact ok57
    · cases h; exact ok58
    · cases h; exact ok59
    · cases h; exact ok60
    · cases h; exact ok61
    · cases h; exact ok62
    · cases h; exact ok63
    · cases h; exact ok64
    · cases h; exact ok65
    · cases h; exact ok66
    · cases h; exact ok67
    · cases h; exact ok68
    · cases h; exact ok70
    · cases h; exact ok71
    · cases h; exact ok72
    · cases h; exact ok73
    · cases h; exact ok74
    · cases h; exact ok75
    · cases h; exact ok76
    · cases h; exact ok77
    · cases h; exact ok84
    · cases h; exact ok90
    · cases h; exact ok91
    · cases h
  nat := fun f h args E v bs hn hv => by
    simp only [code, nats] at hn
    split at hn
    · cases hn; exact ⟨⟨Try.f69, Try.func69, by kernel_rfl, by kernel_rfl⟩, natRepeat_ok (fun s c w h1 h2 => Try.strings_Repeat s c w h1 h2) hv⟩
    · cases hn
end Go.Ae.M2
