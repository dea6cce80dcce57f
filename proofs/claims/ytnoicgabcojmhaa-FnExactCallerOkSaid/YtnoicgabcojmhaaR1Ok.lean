/- The program's functions that CallerOk's law reaches are the evaluator's. -/
import Derived.Test.YtnoicgabcojmhaaR1Code
import Derived.Test.YtnoicgabcojmhaaProg
import Derived.KernelRfl
namespace Go.Ae.R1
open Go.Proofs

theorem ok3 : ∃ fn, Try.prog.funcs[3]? = some fn ∧ FOk Try.prog md fn F3 ∧ (fn.name == "runtime.NumGoroutine") = false :=
  ⟨Try.f3, Try.func3, ⟨⟨_, rfl, .seq (.plain (by kernel_rfl)) (.seq (.plain (by kernel_rfl)) (.seq (.plain (by kernel_rfl)) (.seq (.seq (.plain (by kernel_rfl)) (.cond (by kernel_rfl) (.seq (.plain (by kernel_rfl)) (.ret)) (.skip))) (.seq (.plain (by kernel_rfl)) (.seq (.plain (by kernel_rfl)) (.seq (.seq (.plain (by kernel_rfl)) (.cond (by kernel_rfl) (.seq (.plain (by kernel_rfl)) (.ret)) (.skip))) (.seq (.plain (by kernel_rfl)) (.ret))))))))⟩, by kernel_rfl, rfl, by decide⟩, by kernel_rfl⟩
theorem ok9 : ∃ fn, Try.prog.funcs[9]? = some fn ∧ FOk Try.prog md fn F9 ∧ (fn.name == "runtime.NumGoroutine") = false :=
  ⟨Try.f9, Try.func9, ⟨⟨_, rfl, .seq (.plain (by kernel_rfl)) (.seq (.plain (by kernel_rfl)) (.seq (.seq (.plain (by kernel_rfl)) (.cond (by kernel_rfl) (.seq (.plain (by kernel_rfl)) (.ret)) (.skip))) (.seq (.plain (by kernel_rfl)) (.seq (.seq (.plain (by kernel_rfl)) (.cond (by kernel_rfl) (.seq (.plain (by kernel_rfl)) (.ret)) (.skip))) (.seq (.plain (by kernel_rfl)) (.ret))))))⟩, by kernel_rfl, rfl, by decide⟩, by kernel_rfl⟩
theorem ok10 : ∃ fn, Try.prog.funcs[10]? = some fn ∧ FOk Try.prog md fn F10 ∧ (fn.name == "runtime.NumGoroutine") = false :=
  ⟨Try.f10, Try.func10, ⟨⟨_, rfl, .seq (.plain (by kernel_rfl)) (.seq (.seq (.plain (by kernel_rfl)) (.cond (by kernel_rfl) (.seq (.plain (by kernel_rfl)) (.ret)) (.skip))) (.seq (.seq (.plain (by kernel_rfl)) (.cond (by kernel_rfl) (.seq (.plain (by kernel_rfl)) (.ret)) (.skip))) (.seq (.draw (b := [0, 1, 3, 7, 15, 31, 63, 127, 255, 511, 1023, 2047, 4095, 8191, 16383, 16383, 49151, 131071, 262143, 524287]) (by unfold cIxs; kernel_rfl) (by kernel_rfl) (by kernel_rfl) (by kernel_rfl)) (.ret))))⟩, by kernel_rfl, rfl, by decide⟩, by kernel_rfl⟩
theorem ok11 : ∃ fn, Try.prog.funcs[11]? = some fn ∧ FOk Try.prog md fn F11 ∧ (fn.name == "runtime.NumGoroutine") = false :=
  ⟨Try.f11, Try.func11, ⟨⟨_, rfl, .seq (.plain (by kernel_rfl)) (.seq (.plain (by kernel_rfl)) (.seq (.plain (by kernel_rfl)) (.seq (.plain (by kernel_rfl)) (.seq (.plain (by kernel_rfl)) (.seq (.plain (by kernel_rfl)) (.seq (.plain (by kernel_rfl)) (.seq (.plain (by kernel_rfl)) (.seq (.plain (by kernel_rfl)) (.seq (.plain (by kernel_rfl)) (.ret))))))))))⟩, by kernel_rfl, rfl, by decide⟩, by kernel_rfl⟩
theorem ok12 : ∃ fn, Try.prog.funcs[12]? = some fn ∧ FOk Try.prog md fn F12 ∧ (fn.name == "runtime.NumGoroutine") = false :=
  ⟨Try.f12, Try.func12, ⟨⟨_, rfl, .seq (.plain (by kernel_rfl)) (.seq (.seq (.plain (by kernel_rfl)) (.cond (by kernel_rfl) (.seq (.plain (by kernel_rfl)) (.ret)) (.skip))) (.seq (.seq (.plain (by kernel_rfl)) (.cond (by kernel_rfl) (.seq (.draw (b := [0, 1, 3, 7, 15, 31, 63, 127, 255, 511, 1023, 2047, 4095, 8191, 16383, 16383, 49151, 131071, 262143, 524287]) (by unfold cIxs; kernel_rfl) (by kernel_rfl) (by kernel_rfl) (by kernel_rfl)) (.ret)) (.skip))) (.seq (.plain (by kernel_rfl)) (.ret))))⟩, by kernel_rfl, rfl, by decide⟩, by kernel_rfl⟩
theorem ok30 : ∃ fn, Try.prog.funcs[30]? = some fn ∧ FOk Try.prog md fn F30 ∧ (fn.name == "runtime.NumGoroutine") = false :=
  ⟨Try.f30, Try.func30, ⟨⟨_, rfl, .seq (.plain (by kernel_rfl)) (.seq (.plain (by kernel_rfl)) (.seq (.seq (.plain (by kernel_rfl)) (.cond (by kernel_rfl) (.seq (.plain (by kernel_rfl)) (.ret)) (.skip))) (.seq (.plain (by kernel_rfl)) (.ret))))⟩, by kernel_rfl, rfl, by decide⟩, by kernel_rfl⟩
theorem ok33 : ∃ fn, Try.prog.funcs[33]? = some fn ∧ FOk Try.prog md fn F33 ∧ (fn.name == "runtime.NumGoroutine") = false :=
  ⟨Try.f33, Try.func33, ⟨⟨_, rfl, .seq (.plain (by kernel_rfl)) (.seq (.plain (by kernel_rfl)) (.seq (.plain (by kernel_rfl)) (.seq (.plain (by kernel_rfl)) (.seq (.plain (by kernel_rfl)) (.seq (.plain (by kernel_rfl)) (.ret))))))⟩, by kernel_rfl, rfl, by decide⟩, by kernel_rfl⟩
theorem ok36 : ∃ fn, Try.prog.funcs[36]? = some fn ∧ FOk Try.prog md fn F36 ∧ (fn.name == "runtime.NumGoroutine") = false :=
  ⟨Try.f36, Try.func36, ⟨⟨_, rfl, .seq (.plain (by kernel_rfl)) (.seq (.plain (by kernel_rfl)) (.ret))⟩, by kernel_rfl, rfl, by decide⟩, by kernel_rfl⟩
theorem ok37 : ∃ fn, Try.prog.funcs[37]? = some fn ∧ FOk Try.prog md fn F37 ∧ (fn.name == "runtime.NumGoroutine") = false :=
  ⟨Try.f37, Try.func37, ⟨⟨_, rfl, .seq (.plain (by kernel_rfl)) (.seq (.plain (by kernel_rfl)) (.ret))⟩, by kernel_rfl, rfl, by decide⟩, by kernel_rfl⟩
theorem ok38 : ∃ fn, Try.prog.funcs[38]? = some fn ∧ FOk Try.prog md fn F38 ∧ (fn.name == "runtime.NumGoroutine") = false :=
  ⟨Try.f38, Try.func38, ⟨⟨_, rfl, .seq (.plain (by kernel_rfl)) (.seq (.plain (by kernel_rfl)) (.ret))⟩, by kernel_rfl, rfl, by decide⟩, by kernel_rfl⟩
theorem ok39 : ∃ fn, Try.prog.funcs[39]? = some fn ∧ FOk Try.prog md fn F39 ∧ (fn.name == "runtime.NumGoroutine") = false :=
  ⟨Try.f39, Try.func39, ⟨⟨_, rfl, .seq (.plain (by kernel_rfl)) (.seq (.plain (by kernel_rfl)) (.ret))⟩, by kernel_rfl, rfl, by decide⟩, by kernel_rfl⟩
theorem ok40 : ∃ fn, Try.prog.funcs[40]? = some fn ∧ FOk Try.prog md fn F40 ∧ (fn.name == "runtime.NumGoroutine") = false :=
  ⟨Try.f40, Try.func40, ⟨⟨_, rfl, .seq (.plain (by kernel_rfl)) (.seq (.seq (.plain (by kernel_rfl)) (.cond (by kernel_rfl) (.seq (.plain (by kernel_rfl)) (.ret)) (.skip))) (.seq (.draw (b := [0, 1, 3, 7, 0, 16, 48, 127, 255]) (by unfold cIxs; kernel_rfl) (by kernel_rfl) (by kernel_rfl) (by kernel_rfl)) (.seq (.seq (.plain (by kernel_rfl)) (.block (.seq (.seq (.plain (by kernel_rfl)) (.cond (by kernel_rfl) (.skip) (.plain (by kernel_rfl)))) (.cond (by kernel_rfl) (.seq (.plain (by kernel_rfl)) (.ret)) (.seq (.plain (by kernel_rfl)) (.cond (by kernel_rfl) (.seq (.plain (by kernel_rfl)) (.ret)) (.seq (.plain (by kernel_rfl)) (.cond (by kernel_rfl) (.seq (.plain (by kernel_rfl)) (.ret)) (.seq (.plain (by kernel_rfl)) (.cond (by kernel_rfl) (.seq (.plain (by kernel_rfl)) (.ret)) (.seq (.plain (by kernel_rfl)) (.cond (by kernel_rfl) (.seq (.plain (by kernel_rfl)) (.ret)) (.skip))))))))))))) (.seq (.plain (by kernel_rfl)) (.ret)))))⟩, by kernel_rfl, rfl, by decide⟩, by kernel_rfl⟩
theorem ok41 : ∃ fn, Try.prog.funcs[41]? = some fn ∧ FOk Try.prog md fn F41 ∧ (fn.name == "runtime.NumGoroutine") = false :=
  ⟨Try.f41, Try.func41, ⟨⟨_, rfl, .seq (.plain (by kernel_rfl)) (.seq (.plain (by kernel_rfl)) (.ret))⟩, by kernel_rfl, rfl, by decide⟩, by kernel_rfl⟩
theorem ok42 : ∃ fn, Try.prog.funcs[42]? = some fn ∧ FOk Try.prog md fn F42 ∧ (fn.name == "runtime.NumGoroutine") = false :=
  ⟨Try.f42, Try.func42, ⟨⟨_, rfl, .seq (.plain (by kernel_rfl)) (.seq (.plain (by kernel_rfl)) (.seq (.plain (by kernel_rfl)) (.seq (.plain (by kernel_rfl)) (.seq (.plain (by kernel_rfl)) (.ret)))))⟩, by kernel_rfl, rfl, by decide⟩, by kernel_rfl⟩
theorem ok43 : ∃ fn, Try.prog.funcs[43]? = some fn ∧ FOk Try.prog md fn F43 ∧ (fn.name == "runtime.NumGoroutine") = false :=
  ⟨Try.f43, Try.func43, ⟨⟨_, rfl, .seq (.plain (by kernel_rfl)) (.seq (.plain (by kernel_rfl)) (.ret))⟩, by kernel_rfl, rfl, by decide⟩, by kernel_rfl⟩
theorem ok44 : ∃ fn, Try.prog.funcs[44]? = some fn ∧ FOk Try.prog md fn F44 ∧ (fn.name == "runtime.NumGoroutine") = false :=
  ⟨Try.f44, Try.func44, ⟨⟨_, rfl, .seq (.plain (by kernel_rfl)) (.seq (.plain (by kernel_rfl)) (.ret))⟩, by kernel_rfl, rfl, by decide⟩, by kernel_rfl⟩
theorem ok45 : ∃ fn, Try.prog.funcs[45]? = some fn ∧ FOk Try.prog md fn F45 ∧ (fn.name == "runtime.NumGoroutine") = false :=
  ⟨Try.f45, Try.func45, ⟨⟨_, rfl, .seq (.plain (by kernel_rfl)) (.seq (.plain (by kernel_rfl)) (.ret))⟩, by kernel_rfl, rfl, by decide⟩, by kernel_rfl⟩
theorem ok46 : ∃ fn, Try.prog.funcs[46]? = some fn ∧ FOk Try.prog md fn F46 ∧ (fn.name == "runtime.NumGoroutine") = false :=
  ⟨Try.f46, Try.func46, ⟨⟨_, rfl, .seq (.plain (by kernel_rfl)) (.seq (.seq (.plain (by kernel_rfl)) (.block (.loop (.seq (.plain (by kernel_rfl)) (.seq (.cond (by kernel_rfl) (.skip) (.exit)) (.seq (.block (.seq (.plain (by kernel_rfl)) (.seq (.plain (by kernel_rfl)) (.seq (.plain (by kernel_rfl)) (.cond (by kernel_rfl) (.seq (.plain (by kernel_rfl)) (.ret)) (.skip)))))) (.plain (by kernel_rfl)))))))) (.seq (.plain (by kernel_rfl)) (.ret)))⟩, by kernel_rfl, rfl, by decide⟩, by kernel_rfl⟩
theorem ok47 : ∃ fn, Try.prog.funcs[47]? = some fn ∧ FOk Try.prog md fn F47 ∧ (fn.name == "runtime.NumGoroutine") = false :=
  ⟨Try.f47, Try.func47, ⟨⟨_, rfl, .seq (.plain (by kernel_rfl)) (.seq (.seq (.plain (by kernel_rfl)) (.cond (by kernel_rfl) (.seq (.plain (by kernel_rfl)) (.ret)) (.skip))) (.seq (.seq (.plain (by kernel_rfl)) (.block (.seq (.seq (.plain (by kernel_rfl)) (.cond (by kernel_rfl) (.skip) (.plain (by kernel_rfl)))) (.cond (by kernel_rfl) (.seq (.plain (by kernel_rfl)) (.ret)) (.seq (.plain (by kernel_rfl)) (.cond (by kernel_rfl) (.seq (.plain (by kernel_rfl)) (.ret)) (.seq (.plain (by kernel_rfl)) (.cond (by kernel_rfl) (.seq (.plain (by kernel_rfl)) (.ret)) (.seq (.plain (by kernel_rfl)) (.cond (by kernel_rfl) (.seq (.plain (by kernel_rfl)) (.ret)) (.seq (.plain (by kernel_rfl)) (.cond (by kernel_rfl) (.seq (.plain (by kernel_rfl)) (.ret)) (.skip))))))))))))) (.seq (.plain (by kernel_rfl)) (.ret))))⟩, by kernel_rfl, rfl, by decide⟩, by kernel_rfl⟩
theorem ok48 : ∃ fn, Try.prog.funcs[48]? = some fn ∧ FOk Try.prog md fn F48 ∧ (fn.name == "runtime.NumGoroutine") = false :=
  ⟨Try.f48, Try.func48, ⟨⟨_, rfl, .seq (.plain (by kernel_rfl)) (.seq (.plain (by kernel_rfl)) (.ret))⟩, by kernel_rfl, rfl, by decide⟩, by kernel_rfl⟩
theorem ok74 : ∃ fn, Try.prog.funcs[74]? = some fn ∧ FOk Try.prog md fn F74 ∧ (fn.name == "runtime.NumGoroutine") = false :=
  ⟨Try.f74, Try.func74, ⟨⟨_, rfl, .seq (.plain (by kernel_rfl)) (.seq (.seq (.plain (by kernel_rfl)) (.cond (by kernel_rfl) (.seq (.plain (by kernel_rfl)) (.ret)) (.skip))) (.seq (.seq (.plain (by kernel_rfl)) (.block (.loop (.seq (.seq (.plain (by kernel_rfl)) (.cond (by kernel_rfl) (.skip) (.exit))) (.seq (.block (.seq (.plain (by kernel_rfl)) (.seq (.plain (by kernel_rfl)) (.cond (by kernel_rfl) (.seq (.plain (by kernel_rfl)) (.ret)) (.skip))))) (.plain (by kernel_rfl))))))) (.seq (.plain (by kernel_rfl)) (.ret))))⟩, by kernel_rfl, rfl, by decide⟩, by kernel_rfl⟩
theorem ok75 : ∃ fn, Try.prog.funcs[75]? = some fn ∧ FOk Try.prog md fn F75 ∧ (fn.name == "runtime.NumGoroutine") = false :=
  ⟨Try.f75, Try.func75, ⟨⟨_, rfl, .seq (.plain (by kernel_rfl)) (.seq (.plain (by kernel_rfl)) (.ret))⟩, by kernel_rfl, rfl, by decide⟩, by kernel_rfl⟩
theorem ok76 : ∃ fn, Try.prog.funcs[76]? = some fn ∧ FOk Try.prog md fn F76 ∧ (fn.name == "runtime.NumGoroutine") = false :=
  ⟨Try.f76, Try.func76, ⟨⟨_, rfl, .seq (.plain (by kernel_rfl)) (.seq (.plain (by kernel_rfl)) (.ret))⟩, by kernel_rfl, rfl, by decide⟩, by kernel_rfl⟩
theorem ok87 : ∃ fn, Try.prog.funcs[87]? = some fn ∧ FOk Try.prog md fn F87 ∧ (fn.name == "runtime.NumGoroutine") = false :=
  ⟨Try.f87, Try.func87, ⟨⟨_, rfl, .seq (.plain (by kernel_rfl)) (.seq (.plain (by kernel_rfl)) (.ret))⟩, by kernel_rfl, rfl, by decide⟩, by kernel_rfl⟩
theorem progOk : ProgOk Try.prog code where
  fn := fun f F _ h => by
    show _
    simp only [code, fns] at h
    split at h <;> first | (cases h; assumption) | (cases h; first | exact ok3 | exact ok9 | exact ok10 | exact ok11 | exact ok12 | exact ok30 | exact ok33 | exact ok36 | exact ok37 | exact ok38 | exact ok39 | exact ok40 | exact ok41 | exact ok42 | exact ok43 | exact ok44 | exact ok45 | exact ok46 | exact ok47 | exact ok48 | exact ok74 | exact ok75 | exact ok76 | exact ok87 ) | cases h
  nat := fun f h args E v bs hn _ => by simp [code] at hn
end Go.Ae.R1
