/- The program's functions are the evaluator's. -/
import Derived.Test.YtnfghcflpnlbiaaC3Code
import Derived.Test.YtnfghcflpnlbiaaProg
import Derived.Test.YtnfghcflpnlbiaaShelf
import Derived.KernelRfl
import Derived.Test.YtnfghcflpnlbiaaC0B
namespace Go.Ae.C3
open Go.Proofs
set_option linter.unusedSimpArgs false

theorem ok10 : ∃ fn, Try.prog.funcs[10]? = some fn ∧ FOk Try.prog md fn F10 ∧ (fn.name == "runtime.NumGoroutine") = false :=
  ⟨Try.f10, Try.func10, ⟨⟨_, rfl, .seq (.plain (by kernel_rfl)) (.seq (.plain (by kernel_rfl)) (.seq (.plain (by kernel_rfl)) (.seq (.seq (.plain (by kernel_rfl)) (.cond (by kernel_rfl) (.seq (.plain (by kernel_rfl)) (.ret)) (.skip))) (.seq (.plain (by kernel_rfl)) (.seq (.plain (by kernel_rfl)) (.seq (.plain (by kernel_rfl)) (.seq (.seq (.plain (by kernel_rfl)) (.cond (by kernel_rfl) (.seq (.plain (by kernel_rfl)) (.ret)) (.skip))) (.seq (.seq (.draw (b := [0, 0, 2, 7, 15]) (by unfold cIxs; kernel_rfl) (by kernel_rfl) (by kernel_rfl) (by kernel_rfl)) (.cond (by kernel_rfl) (.seq (.plain (by kernel_rfl)) (.ret)) (.skip))) (.seq (.plain (by kernel_rfl)) (.ret))))))))))⟩, by kernel_rfl, rfl, by decide⟩, by kernel_rfl⟩
theorem ok18 : ∃ fn, Try.prog.funcs[18]? = some fn ∧ FOk Try.prog md fn F18 ∧ (fn.name == "runtime.NumGoroutine") = false :=
  ⟨Try.f18, Try.func18, ⟨⟨_, rfl, .seq (.plain (by kernel_rfl)) (.seq (.plain (by kernel_rfl)) (.seq (.plain (by kernel_rfl)) (.seq (.plain (by kernel_rfl)) (.seq (.plain (by kernel_rfl)) (.ret)))))⟩, by kernel_rfl, rfl, by decide⟩, by kernel_rfl⟩
theorem ok43 : ∃ fn, Try.prog.funcs[43]? = some fn ∧ FOk Try.prog md fn F43 ∧ (fn.name == "runtime.NumGoroutine") = false :=
  ⟨Try.f43, Try.func43, ⟨⟨_, rfl, .seq (.plain (by kernel_rfl)) (.seq (.seq (.plain (by kernel_rfl)) (.cond (by kernel_rfl) (.seq (.plain (by kernel_rfl)) (.ret)) (.skip))) (.seq (.seq (.plain (by kernel_rfl)) (.cond (by kernel_rfl) (.seq (.plain (by kernel_rfl)) (.ret)) (.skip))) (.seq (.seq (.plain (by kernel_rfl)) (.cond (by kernel_rfl) (.seq (.plain (by kernel_rfl)) (.ret)) (.skip))) (.seq (.seq (.plain (by kernel_rfl)) (.cond (by kernel_rfl) (.seq (.plain (by kernel_rfl)) (.ret)) (.skip))) (.seq (.plain (by kernel_rfl)) (.ret))))))⟩, by kernel_rfl, rfl, by decide⟩, by kernel_rfl⟩
theorem ok49 : ∃ fn, Try.prog.funcs[49]? = some fn ∧ FOk Try.prog md fn F49 ∧ (fn.name == "runtime.NumGoroutine") = false :=
  ⟨Try.f49, Try.func49, ⟨⟨_, rfl, .seq (.plain (by kernel_rfl)) (.seq (.seq (.draw (b := [0, 1, 3, 7, 15, 31, 63, 127, 255, 511, 1023, 2047, 4095, 8191, 16383, 32767, 65535, 131071, 262143, 524287, 131071, 1179647, 3276799, 8388607, 16777215]) (by unfold cIxs; kernel_rfl) (by kernel_rfl) (by kernel_rfl) (by kernel_rfl)) (.cond (by kernel_rfl) (.seq (.plain (by kernel_rfl)) (.ret)) (.skip))) (.seq (.plain (by kernel_rfl)) (.ret)))⟩, by kernel_rfl, rfl, by decide⟩, by kernel_rfl⟩
theorem ok50 : ∃ fn, Try.prog.funcs[50]? = some fn ∧ FOk Try.prog md fn F50 ∧ (fn.name == "runtime.NumGoroutine") = false :=
  ⟨Try.f50, Try.func50, ⟨⟨_, rfl, .seq (.plain (by kernel_rfl)) (.seq (.draw (b := [0, 1, 3, 7, 15, 7, 39, 7, 135, 7, 7, 1031, 7, 4103, 15879, 32743, 65511, 131071, 262143, 524287]) (by unfold cIxs; kernel_rfl) (by kernel_rfl) (by kernel_rfl) (by kernel_rfl)) (.ret))⟩, by kernel_rfl, rfl, by decide⟩, by kernel_rfl⟩
theorem ok52 : ∃ fn, Try.prog.funcs[52]? = some fn ∧ FOk Try.prog md fn F52 ∧ (fn.name == "runtime.NumGoroutine") = false :=
  ⟨Try.f52, Try.func52, ⟨⟨_, rfl, .seq (.plain (by kernel_rfl)) (.seq (.plain (by kernel_rfl)) (.seq (.seq (.plain (by kernel_rfl)) (.cond (by kernel_rfl) (.seq (.plain (by kernel_rfl)) (.ret)) (.skip))) (.seq (.plain (by kernel_rfl)) (.ret))))⟩, by kernel_rfl, rfl, by decide⟩, by kernel_rfl⟩
theorem ok53 : ∃ fn, Try.prog.funcs[53]? = some fn ∧ FOk Try.prog md fn F53 ∧ (fn.name == "runtime.NumGoroutine") = false :=
  ⟨Try.f53, Try.func53, ⟨⟨_, rfl, .seq (.plain (by kernel_rfl)) (.seq (.draw (b := [0, 1, 3, 7, 7, 23, 7, 71, 7, 7, 519, 1799, 4087, 8191, 16383, 32767]) (by unfold cIxs; kernel_rfl) (by kernel_rfl) (by kernel_rfl) (by kernel_rfl)) (.ret))⟩, by kernel_rfl, rfl, by decide⟩, by kernel_rfl⟩
theorem ok54 : ∃ fn, Try.prog.funcs[54]? = some fn ∧ FOk Try.prog md fn F54 ∧ (fn.name == "runtime.NumGoroutine") = false :=
  ⟨Try.f54, Try.func54, ⟨⟨_, rfl, .seq (.plain (by kernel_rfl)) (.seq (.plain (by kernel_rfl)) (.seq (.plain (by kernel_rfl)) (.seq (.plain (by kernel_rfl)) (.seq (.plain (by kernel_rfl)) (.seq (.plain (by kernel_rfl)) (.seq (.plain (by kernel_rfl)) (.ret)))))))⟩, by kernel_rfl, rfl, by decide⟩, by kernel_rfl⟩
theorem ok77 : ∃ fn, Try.prog.funcs[77]? = some fn ∧ FOk Try.prog md fn F77 ∧ (fn.name == "runtime.NumGoroutine") = false :=
  ⟨Try.f77, Try.func77, ⟨⟨_, rfl, .seq (.plain (by kernel_rfl)) (.seq (.plain (by kernel_rfl)) (.ret))⟩, by kernel_rfl, rfl, by decide⟩, by kernel_rfl⟩
theorem ok80 : ∃ fn, Try.prog.funcs[80]? = some fn ∧ FOk Try.prog md fn F80 ∧ (fn.name == "runtime.NumGoroutine") = false :=
  ⟨Try.f80, Try.func80, ⟨⟨_, rfl, .seq (.plain (by kernel_rfl)) (.seq (.plain (by kernel_rfl)) (.ret))⟩, by kernel_rfl, rfl, by decide⟩, by kernel_rfl⟩
theorem ok84 : ∃ fn, Try.prog.funcs[84]? = some fn ∧ FOk Try.prog md fn F84 ∧ (fn.name == "runtime.NumGoroutine") = false :=
  ⟨Try.f84, Try.func84, ⟨⟨_, rfl, .seq (.plain (by kernel_rfl)) (.seq (.plain (by kernel_rfl)) (.ret))⟩, by kernel_rfl, rfl, by decide⟩, by kernel_rfl⟩
theorem ok86 : ∃ fn, Try.prog.funcs[86]? = some fn ∧ FOk Try.prog md fn F86 ∧ (fn.name == "runtime.NumGoroutine") = false :=
  ⟨Try.f86, Try.func86, ⟨⟨_, rfl, .seq (.plain (by kernel_rfl)) (.seq (.plain (by kernel_rfl)) (.ret))⟩, by kernel_rfl, rfl, by decide⟩, by kernel_rfl⟩
theorem ok88 : ∃ fn, Try.prog.funcs[88]? = some fn ∧ FOk Try.prog md fn F88 ∧ (fn.name == "runtime.NumGoroutine") = false :=
  ⟨Try.f88, Try.func88, ⟨⟨_, rfl, .seq (.plain (by kernel_rfl)) (.seq (.plain (by kernel_rfl)) (.ret))⟩, by kernel_rfl, rfl, by decide⟩, by kernel_rfl⟩
theorem ok89 : ∃ fn, Try.prog.funcs[89]? = some fn ∧ FOk Try.prog md fn F89 ∧ (fn.name == "runtime.NumGoroutine") = false :=
  ⟨Try.f89, Try.func89, ⟨⟨_, rfl, .seq (.plain (by kernel_rfl)) (.seq (.plain (by kernel_rfl)) (.seq (.plain (by kernel_rfl)) (.seq (.plain (by kernel_rfl)) (.seq (.seq (.plain (by kernel_rfl)) (.block (.loop (.seq (.seq (.plain (by kernel_rfl)) (.cond (by kernel_rfl) (.skip) (.exit))) (.seq (.block (.seq (.plain (by kernel_rfl)) (.seq (.seq (.plain (by kernel_rfl)) (.block (.loop (.seq (.seq (.plain (by kernel_rfl)) (.cond (by kernel_rfl) (.skip) (.exit))) (.seq (.block (.seq (.draw (b := [0, 0, 3, 0, 8, 31, 0, 127, 0, 0, 768, 2047, 0, 0, 12288, 32767, 65535]) (by unfold cIxs; kernel_rfl) (by kernel_rfl) (by kernel_rfl) (by kernel_rfl)) (.seq (.plain (by kernel_rfl)) (.cond (by kernel_rfl) (.plain (by kernel_rfl)) (.plain (by kernel_rfl)))))) (.plain (by kernel_rfl))))))) (.plain (by kernel_rfl))))) (.plain (by kernel_rfl))))))) (.seq (.plain (by kernel_rfl)) (.seq (.plain (by kernel_rfl)) (.ret)))))))⟩, by kernel_rfl, rfl, by decide⟩, by kernel_rfl⟩
theorem ok90 : ∃ fn, Try.prog.funcs[90]? = some fn ∧ FOk Try.prog md fn F90 ∧ (fn.name == "runtime.NumGoroutine") = false :=
  ⟨Try.f90, Try.func90, ⟨⟨_, rfl, .seq (.plain (by kernel_rfl)) (.seq (.plain (by kernel_rfl)) (.seq (.plain (by kernel_rfl)) (.seq (.seq (.plain (by kernel_rfl)) (.block (.loop (.seq (.plain (by kernel_rfl)) (.seq (.cond (by kernel_rfl) (.skip) (.exit)) (.seq (.block (.seq (.plain (by kernel_rfl)) (.plain (by kernel_rfl)))) (.plain (by kernel_rfl)))))))) (.seq (.seq (.plain (by kernel_rfl)) (.block (.loop (.seq (.plain (by kernel_rfl)) (.seq (.cond (by kernel_rfl) (.skip) (.exit)) (.seq (.block (.seq (.plain (by kernel_rfl)) (.seq (.plain (by kernel_rfl)) (.draw (b := [0, 0, 3, 7, 0, 0, 0, 96, 255, 511]) (by unfold cIxs; kernel_rfl) (by kernel_rfl) (by kernel_rfl) (by kernel_rfl))))) (.plain (by kernel_rfl)))))))) (.seq (.plain (by kernel_rfl)) (.seq (.seq (.plain (by kernel_rfl)) (.block (.loop (.seq (.plain (by kernel_rfl)) (.seq (.cond (by kernel_rfl) (.skip) (.exit)) (.seq (.block (.seq (.plain (by kernel_rfl)) (.plain (by kernel_rfl)))) (.plain (by kernel_rfl)))))))) (.seq (.plain (by kernel_rfl)) (.seq (.plain (by kernel_rfl)) (.ret)))))))))⟩, by kernel_rfl, rfl, by decide⟩, by kernel_rfl⟩
theorem ok91 : ∃ fn, Try.prog.funcs[91]? = some fn ∧ FOk Try.prog md fn F91 ∧ (fn.name == "runtime.NumGoroutine") = false :=
  ⟨Try.f91, Try.func91, ⟨⟨_, rfl, .seq (.plain (by kernel_rfl)) (.seq (.seq (.plain (by kernel_rfl)) (.cond (by kernel_rfl) (.seq (.plain (by kernel_rfl)) (.ret)) (.skip))) (.seq (.seq (.plain (by kernel_rfl)) (.cond (by kernel_rfl) (.seq (.plain (by kernel_rfl)) (.ret)) (.skip))) (.seq (.plain (by kernel_rfl)) (.ret))))⟩, by kernel_rfl, rfl, by decide⟩, by kernel_rfl⟩
theorem ok92 : ∃ fn, Try.prog.funcs[92]? = some fn ∧ FOk Try.prog md fn F92 ∧ (fn.name == "runtime.NumGoroutine") = false :=
  ⟨Try.f92, Try.func92, ⟨⟨_, rfl, .seq (.plain (by kernel_rfl)) (.seq (.seq (.plain (by kernel_rfl)) (.cond (by kernel_rfl) (.seq (.plain (by kernel_rfl)) (.ret)) (.skip))) (.seq (.seq (.plain (by kernel_rfl)) (.block (.loop (.seq (.seq (.plain (by kernel_rfl)) (.cond (by kernel_rfl) (.skip) (.exit))) (.seq (.block (.seq (.draw (b := [0, 0, 3, 7, 0, 0, 48, 112, 255]) (by unfold cIxs; kernel_rfl) (by kernel_rfl) (by kernel_rfl) (by kernel_rfl)) (.cond (by kernel_rfl) (.seq (.plain (by kernel_rfl)) (.ret)) (.skip)))) (.plain (by kernel_rfl))))))) (.seq (.plain (by kernel_rfl)) (.ret))))⟩, by kernel_rfl, rfl, by decide⟩, by kernel_rfl⟩
theorem ok96 : ∃ fn, Try.prog.funcs[96]? = some fn ∧ FOk Try.prog md fn F96 ∧ (fn.name == "runtime.NumGoroutine") = false :=
  ⟨Try.f96, Try.func96, ⟨⟨_, rfl, .seq (.plain (by kernel_rfl)) (.seq (.plain (by kernel_rfl)) (.ret))⟩, by kernel_rfl, rfl, by decide⟩, by kernel_rfl⟩
theorem ok97 : ∃ fn, Try.prog.funcs[97]? = some fn ∧ FOk Try.prog md fn F97 ∧ (fn.name == "runtime.NumGoroutine") = false :=
  ⟨Try.f97, Try.func97, ⟨⟨_, rfl, .seq (.plain (by kernel_rfl)) (.seq (.plain (by kernel_rfl)) (.ret))⟩, by kernel_rfl, rfl, by decide⟩, by kernel_rfl⟩
theorem ok98 : ∃ fn, Try.prog.funcs[98]? = some fn ∧ FOk Try.prog md fn F98 ∧ (fn.name == "runtime.NumGoroutine") = false :=
  ⟨Try.f98, Try.func98, ⟨⟨_, rfl, .seq (.plain (by kernel_rfl)) (.seq (.plain (by kernel_rfl)) (.ret))⟩, by kernel_rfl, rfl, by decide⟩, by kernel_rfl⟩
theorem ok99 : ∃ fn, Try.prog.funcs[99]? = some fn ∧ FOk Try.prog md fn F99 ∧ (fn.name == "runtime.NumGoroutine") = false :=
  ⟨Try.f99, Try.func99, ⟨⟨_, rfl, .seq (.plain (by kernel_rfl)) (.seq (.draw (b := [0, 1, 0, 4, 15, 31, 0, 76, 255, 0, 512, 2047, 4095]) (by unfold cIxs; kernel_rfl) (by kernel_rfl) (by kernel_rfl) (by kernel_rfl)) (.ret))⟩, by kernel_rfl, rfl, by decide⟩, by kernel_rfl⟩
theorem ok100 : ∃ fn, Try.prog.funcs[100]? = some fn ∧ FOk Try.prog md fn F100 ∧ (fn.name == "runtime.NumGoroutine") = false :=
  ⟨Try.f100, Try.func100, ⟨⟨_, rfl, .seq (.plain (by kernel_rfl)) (.seq (.seq (.plain (by kernel_rfl)) (.cond (by kernel_rfl) (.seq (.plain (by kernel_rfl)) (.ret)) (.skip))) (.seq (.seq (.plain (by kernel_rfl)) (.block (.loop (.seq (.plain (by kernel_rfl)) (.seq (.cond (by kernel_rfl) (.skip) (.exit)) (.seq (.block (.seq (.plain (by kernel_rfl)) (.seq (.draw (b := [0, 0, 3, 7, 0, 0, 48, 112, 255]) (by unfold cIxs; kernel_rfl) (by kernel_rfl) (by kernel_rfl) (by kernel_rfl)) (.cond (by kernel_rfl) (.seq (.plain (by kernel_rfl)) (.ret)) (.skip))))) (.plain (by kernel_rfl)))))))) (.seq (.plain (by kernel_rfl)) (.ret))))⟩, by kernel_rfl, rfl, by decide⟩, by kernel_rfl⟩
theorem ok101 : ∃ fn, Try.prog.funcs[101]? = some fn ∧ FOk Try.prog md fn F101 ∧ (fn.name == "runtime.NumGoroutine") = false :=
  ⟨Try.f101, Try.func101, ⟨⟨_, rfl, .seq (.plain (by kernel_rfl)) (.seq (.draw (b := [0, 0, 2, 7, 0, 16, 63, 0, 0, 262, 902, 0, 2048, 8070, 0, 0, 32768, 114688, 262022, 895, 1048575]) (by unfold cIxs; kernel_rfl) (by kernel_rfl) (by kernel_rfl) (by kernel_rfl)) (.ret))⟩, by kernel_rfl, rfl, by decide⟩, by kernel_rfl⟩
theorem ok102 : ∃ fn, Try.prog.funcs[102]? = some fn ∧ FOk Try.prog md fn F102 ∧ (fn.name == "runtime.NumGoroutine") = false :=
  ⟨Try.f102, Try.func102, ⟨⟨_, rfl, .seq (.plain (by kernel_rfl)) (.seq (.plain (by kernel_rfl)) (.seq (.seq (.plain (by kernel_rfl)) (.cond (by kernel_rfl) (.seq (.plain (by kernel_rfl)) (.ret)) (.skip))) (.seq (.seq (.plain (by kernel_rfl)) (.block (.loop (.seq (.seq (.plain (by kernel_rfl)) (.cond (by kernel_rfl) (.skip) (.exit))) (.seq (.block (.seq (.plain (by kernel_rfl)) (.seq (.plain (by kernel_rfl)) (.cond (by kernel_rfl) (.seq (.plain (by kernel_rfl)) (.ret)) (.skip))))) (.plain (by kernel_rfl))))))) (.seq (.plain (by kernel_rfl)) (.ret)))))⟩, by kernel_rfl, rfl, by decide⟩, by kernel_rfl⟩
theorem ok103 : ∃ fn, Try.prog.funcs[103]? = some fn ∧ FOk Try.prog md fn F103 ∧ (fn.name == "runtime.NumGoroutine") = false :=
  ⟨Try.f103, Try.func103, ⟨⟨_, rfl, .seq (.plain (by kernel_rfl)) (.seq (.seq (.plain (by kernel_rfl)) (.cond (by kernel_rfl) (.seq (.plain (by kernel_rfl)) (.ret)) (.skip))) (.seq (.seq (.plain (by kernel_rfl)) (.block (.loop (.seq (.seq (.plain (by kernel_rfl)) (.cond (by kernel_rfl) (.skip) (.exit))) (.seq (.block (.seq (.draw (b := [0, 1, 0, 7, 15, 31, 0, 64, 0, 256, 0, 1024, 4032, 8191]) (by unfold cIxs; kernel_rfl) (by kernel_rfl) (by kernel_rfl) (by kernel_rfl)) (.cond (by kernel_rfl) (.seq (.plain (by kernel_rfl)) (.ret)) (.skip)))) (.plain (by kernel_rfl))))))) (.seq (.plain (by kernel_rfl)) (.ret))))⟩, by kernel_rfl, rfl, by decide⟩, by kernel_rfl⟩
theorem ok104 : ∃ fn, Try.prog.funcs[104]? = some fn ∧ FOk Try.prog md fn F104 ∧ (fn.name == "runtime.NumGoroutine") = false :=
  ⟨Try.f104, Try.func104, ⟨⟨_, rfl, .seq (.plain (by kernel_rfl)) (.seq (.seq (.plain (by kernel_rfl)) (.cond (by kernel_rfl) (.seq (.plain (by kernel_rfl)) (.ret)) (.skip))) (.seq (.seq (.plain (by kernel_rfl)) (.block (.loop (.seq (.seq (.plain (by kernel_rfl)) (.cond (by kernel_rfl) (.skip) (.exit))) (.seq (.block (.seq (.draw (b := [0, 1, 0, 7, 15, 0, 32, 0, 224, 480, 1023]) (by unfold cIxs; kernel_rfl) (by kernel_rfl) (by kernel_rfl) (by kernel_rfl)) (.cond (by kernel_rfl) (.seq (.plain (by kernel_rfl)) (.ret)) (.skip)))) (.plain (by kernel_rfl))))))) (.seq (.plain (by kernel_rfl)) (.ret))))⟩, by kernel_rfl, rfl, by decide⟩, by kernel_rfl⟩
theorem ok105 : ∃ fn, Try.prog.funcs[105]? = some fn ∧ FOk Try.prog md fn F105 ∧ (fn.name == "runtime.NumGoroutine") = false :=
  ⟨Try.f105, Try.func105, ⟨⟨_, rfl, .seq (.plain (by kernel_rfl)) (.seq (.plain (by kernel_rfl)) (.seq (.seq (.plain (by kernel_rfl)) (.block (.loop (.seq (.seq (.plain (by kernel_rfl)) (.cond (by kernel_rfl) (.skip) (.exit))) (.seq (.block (.seq (.plain (by kernel_rfl)) (.plain (by kernel_rfl)))) (.plain (by kernel_rfl))))))) (.seq (.plain (by kernel_rfl)) (.ret))))⟩, by kernel_rfl, rfl, by decide⟩, by kernel_rfl⟩
theorem ok106 : ∃ fn, Try.prog.funcs[106]? = some fn ∧ FOk Try.prog md fn F106 ∧ (fn.name == "runtime.NumGoroutine") = false :=
  ⟨Try.f106, Try.func106, ⟨⟨_, rfl, .seq (.plain (by kernel_rfl)) (.seq (.plain (by kernel_rfl)) (.seq (.seq (.plain (by kernel_rfl)) (.block (.loop (.seq (.seq (.plain (by kernel_rfl)) (.cond (by kernel_rfl) (.skip) (.exit))) (.seq (.block (.plain (by kernel_rfl))) (.plain (by kernel_rfl))))))) (.seq (.plain (by kernel_rfl)) (.ret))))⟩, by kernel_rfl, rfl, by decide⟩, by kernel_rfl⟩
theorem ok115 : ∃ fn, Try.prog.funcs[115]? = some fn ∧ FOk Try.prog md fn F115 ∧ (fn.name == "runtime.NumGoroutine") = false :=
  ⟨Try.f115, Try.func115, ⟨⟨_, rfl, .seq (.plain (by kernel_rfl)) (.seq (.plain (by kernel_rfl)) (.ret))⟩, by kernel_rfl, rfl, by decide⟩, by kernel_rfl⟩
theorem ok129 : ∃ fn, Try.prog.funcs[129]? = some fn ∧ FOk Try.prog md fn F129 ∧ (fn.name == "runtime.NumGoroutine") = false :=
  ⟨Try.f129, Try.func129, ⟨⟨_, rfl, .seq (.plain (by kernel_rfl)) (.seq (.plain (by kernel_rfl)) (.seq (.plain (by kernel_rfl)) (.seq (.seq (.plain (by kernel_rfl)) (.block (.loop (.seq (.plain (by kernel_rfl)) (.seq (.cond (by kernel_rfl) (.skip) (.exit)) (.seq (.block (.seq (.plain (by kernel_rfl)) (.seq (.plain (by kernel_rfl)) (.block (.loop (.seq (.plain (by kernel_rfl)) (.seq (.cond (by kernel_rfl) (.skip) (.exit)) (.seq (.block (.seq (.plain (by kernel_rfl)) (.draw (b := [0, 1, 0, 0, 12, 0, 0, 96, 0, 480, 992, 2044, 4092, 8191, 16383, 32767]) (by unfold cIxs; kernel_rfl) (by kernel_rfl) (by kernel_rfl) (by kernel_rfl)))) (.plain (by kernel_rfl)))))))))) (.plain (by kernel_rfl)))))))) (.seq (.plain (by kernel_rfl)) (.ret)))))⟩, by kernel_rfl, rfl, by decide⟩, by kernel_rfl⟩
theorem ok131 : ∃ fn, Try.prog.funcs[131]? = some fn ∧ FOk Try.prog md fn F131 ∧ (fn.name == "runtime.NumGoroutine") = false :=
  ⟨Try.f131, Try.func131, ⟨⟨_, rfl, .seq (.plain (by kernel_rfl)) (.seq (.plain (by kernel_rfl)) (.seq (.seq (.plain (by kernel_rfl)) (.block (.loop (.seq (.plain (by kernel_rfl)) (.seq (.cond (by kernel_rfl) (.skip) (.exit)) (.seq (.block (.seq (.plain (by kernel_rfl)) (.seq (.plain (by kernel_rfl)) (.seq (.seq (.plain (by kernel_rfl)) (.block (.loop (.seq (.plain (by kernel_rfl)) (.seq (.cond (by kernel_rfl) (.skip) (.exit)) (.seq (.block (.seq (.plain (by kernel_rfl)) (.plain (by kernel_rfl)))) (.plain (by kernel_rfl)))))))) (.plain (by kernel_rfl)))))) (.plain (by kernel_rfl)))))))) (.seq (.plain (by kernel_rfl)) (.ret))))⟩, by kernel_rfl, rfl, by decide⟩, by kernel_rfl⟩
theorem ok132 : ∃ fn, Try.prog.funcs[132]? = some fn ∧ FOk Try.prog md fn F132 ∧ (fn.name == "runtime.NumGoroutine") = false :=
  ⟨Try.f132, Try.func132, ⟨⟨_, rfl, .seq (.plain (by kernel_rfl)) (.seq (.plain (by kernel_rfl)) (.seq (.seq (.plain (by kernel_rfl)) (.block (.loop (.seq (.seq (.plain (by kernel_rfl)) (.cond (by kernel_rfl) (.skip) (.exit))) (.seq (.block (.seq (.plain (by kernel_rfl)) (.seq (.seq (.plain (by kernel_rfl)) (.block (.loop (.seq (.seq (.plain (by kernel_rfl)) (.cond (by kernel_rfl) (.skip) (.exit))) (.seq (.block (.draw (b := [0, 0, 2, 0, 0, 16, 56, 0, 248, 510, 1022, 0, 0, 6144, 14336, 32766, 65535, 131071]) (by unfold cIxs; kernel_rfl) (by kernel_rfl) (by kernel_rfl) (by kernel_rfl))) (.plain (by kernel_rfl))))))) (.plain (by kernel_rfl))))) (.plain (by kernel_rfl))))))) (.seq (.plain (by kernel_rfl)) (.ret))))⟩, by kernel_rfl, rfl, by decide⟩, by kernel_rfl⟩
theorem ok133 : ∃ fn, Try.prog.funcs[133]? = some fn ∧ FOk Try.prog md fn F133 ∧ (fn.name == "runtime.NumGoroutine") = false :=
  ⟨Try.f133, Try.func133, ⟨⟨_, rfl, .seq (.plain (by kernel_rfl)) (.seq (.plain (by kernel_rfl)) (.seq (.plain (by kernel_rfl)) (.seq (.seq (.plain (by kernel_rfl)) (.block (.loop (.seq (.seq (.plain (by kernel_rfl)) (.cond (by kernel_rfl) (.skip) (.exit))) (.seq (.block (.seq (.plain (by kernel_rfl)) (.block (.loop (.seq (.seq (.plain (by kernel_rfl)) (.cond (by kernel_rfl) (.skip) (.exit))) (.seq (.block (.draw (b := [0, 1, 0, 0, 12, 0, 0, 96, 0, 480, 992, 2044, 4092, 8191, 16383, 32767]) (by unfold cIxs; kernel_rfl) (by kernel_rfl) (by kernel_rfl) (by kernel_rfl))) (.plain (by kernel_rfl)))))))) (.plain (by kernel_rfl))))))) (.seq (.plain (by kernel_rfl)) (.ret)))))⟩, by kernel_rfl, rfl, by decide⟩, by kernel_rfl⟩
theorem ok136 : ∃ fn, Try.prog.funcs[136]? = some fn ∧ FOk Try.prog md fn F136 ∧ (fn.name == "runtime.NumGoroutine") = false :=
  ⟨Try.f136, Try.func136, ⟨⟨_, rfl, .seq (.plain (by kernel_rfl)) (.seq (.plain (by kernel_rfl)) (.seq (.plain (by kernel_rfl)) (.ret)))⟩, by kernel_rfl, rfl, by decide⟩, by kernel_rfl⟩
theorem ok138 : ∃ fn, Try.prog.funcs[138]? = some fn ∧ FOk Try.prog md fn F138 ∧ (fn.name == "runtime.NumGoroutine") = false :=
  ⟨Try.f138, Try.func138, ⟨⟨_, rfl, .seq (.plain (by kernel_rfl)) (.seq (.seq (.plain (by kernel_rfl)) (.block (.loop (.seq (.plain (by kernel_rfl)) (.seq (.cond (by kernel_rfl) (.skip) (.exit)) (.seq (.block (.seq (.plain (by kernel_rfl)) (.seq (.plain (by kernel_rfl)) (.cond (by kernel_rfl) (.seq (.plain (by kernel_rfl)) (.ret)) (.skip))))) (.plain (by kernel_rfl)))))))) (.seq (.plain (by kernel_rfl)) (.ret)))⟩, by kernel_rfl, rfl, by decide⟩, by kernel_rfl⟩
theorem ok139 : ∃ fn, Try.prog.funcs[139]? = some fn ∧ FOk Try.prog md fn F139 ∧ (fn.name == "runtime.NumGoroutine") = false :=
  ⟨Try.f139, Try.func139, ⟨⟨_, rfl, .seq (.plain (by kernel_rfl)) (.seq (.plain (by kernel_rfl)) (.seq (.plain (by kernel_rfl)) (.seq (.draw (b := [0, 0, 2, 7, 0, 0, 48, 0, 128, 496, 0, 0, 2048, 7168, 16368, 15, 65535]) (by unfold cIxs; kernel_rfl) (by kernel_rfl) (by kernel_rfl) (by kernel_rfl)) (.ret))))⟩, by kernel_rfl, rfl, by decide⟩, by kernel_rfl⟩
theorem ok146 : ∃ fn, Try.prog.funcs[146]? = some fn ∧ FOk Try.prog md fn F146 ∧ (fn.name == "runtime.NumGoroutine") = false :=
  ⟨Try.f146, Try.func146, ⟨⟨_, rfl, .seq (.plain (by kernel_rfl)) (.seq (.plain (by kernel_rfl)) (.seq (.seq (.plain (by kernel_rfl)) (.block (.loop (.seq (.seq (.plain (by kernel_rfl)) (.cond (by kernel_rfl) (.skip) (.exit))) (.seq (.block (.draw (b := [0, 0, 0, 6, 0, 0, 48, 126, 254, 511, 1023]) (by unfold cIxs; kernel_rfl) (by kernel_rfl) (by kernel_rfl) (by kernel_rfl))) (.plain (by kernel_rfl))))))) (.seq (.plain (by kernel_rfl)) (.ret))))⟩, by kernel_rfl, rfl, by decide⟩, by kernel_rfl⟩
theorem ok147 : ∃ fn, Try.prog.funcs[147]? = some fn ∧ FOk Try.prog md fn F147 ∧ (fn.name == "runtime.NumGoroutine") = false :=
  ⟨Try.f147, Try.func147, ⟨⟨_, rfl, .seq (.plain (by kernel_rfl)) (.seq (.plain (by kernel_rfl)) (.seq (.seq (.plain (by kernel_rfl)) (.block (.loop (.seq (.plain (by kernel_rfl)) (.seq (.cond (by kernel_rfl) (.skip) (.exit)) (.seq (.block (.seq (.plain (by kernel_rfl)) (.draw (b := [0, 0, 0, 0, 12, 0, 0, 96, 252, 511, 1023]) (by unfold cIxs; kernel_rfl) (by kernel_rfl) (by kernel_rfl) (by kernel_rfl)))) (.plain (by kernel_rfl)))))))) (.seq (.plain (by kernel_rfl)) (.ret))))⟩, by kernel_rfl, rfl, by decide⟩, by kernel_rfl⟩
theorem ok154 : ∃ fn, Try.prog.funcs[154]? = some fn ∧ FOk Try.prog md fn F154 ∧ (fn.name == "runtime.NumGoroutine") = false :=
  ⟨Try.f154, Try.func154, ⟨⟨_, rfl, .seq (.plain (by kernel_rfl)) (.seq (.plain (by kernel_rfl)) (.seq (.seq (.plain (by kernel_rfl)) (.block (.loop (.seq (.plain (by kernel_rfl)) (.seq (.cond (by kernel_rfl) (.skip) (.exit)) (.seq (.block (.seq (.plain (by kernel_rfl)) (.plain (by kernel_rfl)))) (.plain (by kernel_rfl)))))))) (.seq (.plain (by kernel_rfl)) (.ret))))⟩, by kernel_rfl, rfl, by decide⟩, by kernel_rfl⟩
theorem ok155 : ∃ fn, Try.prog.funcs[155]? = some fn ∧ FOk Try.prog md fn F155 ∧ (fn.name == "runtime.NumGoroutine") = false :=
  ⟨Try.f155, Try.func155, ⟨⟨_, rfl, .seq (.plain (by kernel_rfl)) (.seq (.plain (by kernel_rfl)) (.ret))⟩, by kernel_rfl, rfl, by decide⟩, by kernel_rfl⟩
theorem ok157 : ∃ fn, Try.prog.funcs[157]? = some fn ∧ FOk Try.prog md fn F157 ∧ (fn.name == "runtime.NumGoroutine") = false :=
  ⟨Try.f157, Try.func157, ⟨⟨_, rfl, .seq (.plain (by kernel_rfl)) (.seq (.plain (by kernel_rfl)) (.ret))⟩, by kernel_rfl, rfl, by decide⟩, by kernel_rfl⟩
theorem ok158 : ∃ fn, Try.prog.funcs[158]? = some fn ∧ FOk Try.prog md fn F158 ∧ (fn.name == "runtime.NumGoroutine") = false :=
  ⟨Try.f158, Try.func158, ⟨⟨_, rfl, .seq (.plain (by kernel_rfl)) (.seq (.plain (by kernel_rfl)) (.seq (.block (.loop (.seq (.seq (.plain (by kernel_rfl)) (.cond (by kernel_rfl) (.skip) (.exit))) (.seq (.block (.seq (.seq (.plain (by kernel_rfl)) (.cond (by kernel_rfl) (.plain (by kernel_rfl)) (.skip))) (.plain (by kernel_rfl)))) (.plain (by kernel_rfl)))))) (.seq (.plain (by kernel_rfl)) (.ret))))⟩, by kernel_rfl, rfl, by decide⟩, by kernel_rfl⟩
theorem ok159 : ∃ fn, Try.prog.funcs[159]? = some fn ∧ FOk Try.prog md fn F159 ∧ (fn.name == "runtime.NumGoroutine") = false :=
  ⟨Try.f159, Try.func159, ⟨⟨_, rfl, .seq (.plain (by kernel_rfl)) (.seq (.plain (by kernel_rfl)) (.seq (.seq (.plain (by kernel_rfl)) (.block (.loop (.seq (.plain (by kernel_rfl)) (.seq (.cond (by kernel_rfl) (.skip) (.exit)) (.seq (.block (.seq (.plain (by kernel_rfl)) (.plain (by kernel_rfl)))) (.plain (by kernel_rfl)))))))) (.seq (.plain (by kernel_rfl)) (.ret))))⟩, by kernel_rfl, rfl, by decide⟩, by kernel_rfl⟩
theorem ok160 : ∃ fn, Try.prog.funcs[160]? = some fn ∧ FOk Try.prog md fn F160 ∧ (fn.name == "runtime.NumGoroutine") = false :=
  ⟨Try.f160, Try.func160, ⟨⟨_, rfl, .seq (.plain (by kernel_rfl)) (.seq (.plain (by kernel_rfl)) (.seq (.seq (.plain (by kernel_rfl)) (.block (.loop (.seq (.seq (.plain (by kernel_rfl)) (.cond (by kernel_rfl) (.skip) (.exit))) (.seq (.block (.plain (by kernel_rfl))) (.plain (by kernel_rfl))))))) (.seq (.plain (by kernel_rfl)) (.ret))))⟩, by kernel_rfl, rfl, by decide⟩, by kernel_rfl⟩
theorem ok161 : ∃ fn, Try.prog.funcs[161]? = some fn ∧ FOk Try.prog md fn F161 ∧ (fn.name == "runtime.NumGoroutine") = false :=
  ⟨Try.f161, Try.func161, ⟨⟨_, rfl, .seq (.plain (by kernel_rfl)) (.seq (.plain (by kernel_rfl)) (.seq (.seq (.plain (by kernel_rfl)) (.block (.loop (.seq (.seq (.plain (by kernel_rfl)) (.cond (by kernel_rfl) (.skip) (.exit))) (.seq (.block (.seq (.plain (by kernel_rfl)) (.cond (by kernel_rfl) (.plain (by kernel_rfl)) (.plain (by kernel_rfl))))) (.plain (by kernel_rfl))))))) (.seq (.plain (by kernel_rfl)) (.ret))))⟩, by kernel_rfl, rfl, by decide⟩, by kernel_rfl⟩
theorem ok162 : ∃ fn, Try.prog.funcs[162]? = some fn ∧ FOk Try.prog md fn F162 ∧ (fn.name == "runtime.NumGoroutine") = false :=
  ⟨Try.f162, Try.func162, ⟨⟨_, rfl, .seq (.plain (by kernel_rfl)) (.seq (.plain (by kernel_rfl)) (.seq (.seq (.plain (by kernel_rfl)) (.block (.loop (.seq (.seq (.plain (by kernel_rfl)) (.cond (by kernel_rfl) (.skip) (.exit))) (.seq (.block (.seq (.seq (.plain (by kernel_rfl)) (.cond (by kernel_rfl) (.plain (by kernel_rfl)) (.skip))) (.seq (.plain (by kernel_rfl)) (.seq (.plain (by kernel_rfl)) (.seq (.plain (by kernel_rfl)) (.cond (by kernel_rfl) (.plain (by kernel_rfl)) (.skip))))))) (.plain (by kernel_rfl))))))) (.seq (.plain (by kernel_rfl)) (.ret))))⟩, by kernel_rfl, rfl, by decide⟩, by kernel_rfl⟩
theorem ok163 : ∃ fn, Try.prog.funcs[163]? = some fn ∧ FOk Try.prog md fn F163 ∧ (fn.name == "runtime.NumGoroutine") = false :=
  ⟨Try.f163, Try.func163, ⟨⟨_, rfl, .seq (.plain (by kernel_rfl)) (.seq (.plain (by kernel_rfl)) (.ret))⟩, by kernel_rfl, rfl, by decide⟩, by kernel_rfl⟩
theorem ok173 : ∃ fn, Try.prog.funcs[173]? = some fn ∧ FOk Try.prog md fn F173 ∧ (fn.name == "runtime.NumGoroutine") = false :=
  ⟨Try.f173, Try.func173, ⟨⟨_, rfl, .seq (.plain (by kernel_rfl)) (.seq (.plain (by kernel_rfl)) (.seq (.block (.loop (.seq (.seq (.plain (by kernel_rfl)) (.cond (by kernel_rfl) (.skip) (.exit))) (.seq (.block (.seq (.seq (.plain (by kernel_rfl)) (.cond (by kernel_rfl) (.plain (by kernel_rfl)) (.skip))) (.plain (by kernel_rfl)))) (.plain (by kernel_rfl)))))) (.seq (.plain (by kernel_rfl)) (.ret))))⟩, by kernel_rfl, rfl, by decide⟩, by kernel_rfl⟩
theorem ok174 : ∃ fn, Try.prog.funcs[174]? = some fn ∧ FOk Try.prog md fn F174 ∧ (fn.name == "runtime.NumGoroutine") = false :=
  ⟨Try.f174, Try.func174, ⟨⟨_, rfl, .seq (.plain (by kernel_rfl)) (.seq (.plain (by kernel_rfl)) (.seq (.seq (.plain (by kernel_rfl)) (.cond (by kernel_rfl) (.plain (by kernel_rfl)) (.skip))) (.seq (.plain (by kernel_rfl)) (.ret))))⟩, by kernel_rfl, rfl, by decide⟩, by kernel_rfl⟩
theorem ok175 : ∃ fn, Try.prog.funcs[175]? = some fn ∧ FOk Try.prog md fn F175 ∧ (fn.name == "runtime.NumGoroutine") = false :=
  ⟨Try.f175, Try.func175, ⟨⟨_, rfl, .seq (.plain (by kernel_rfl)) (.seq (.plain (by kernel_rfl)) (.seq (.block (.loop (.seq (.seq (.plain (by kernel_rfl)) (.cond (by kernel_rfl) (.skip) (.exit))) (.block (.seq (.seq (.plain (by kernel_rfl)) (.cond (by kernel_rfl) (.plain (by kernel_rfl)) (.skip))) (.seq (.plain (by kernel_rfl)) (.plain (by kernel_rfl)))))))) (.seq (.plain (by kernel_rfl)) (.ret))))⟩, by kernel_rfl, rfl, by decide⟩, by kernel_rfl⟩
set_option maxRecDepth 100000 in
theorem progOk : ProgOk Try.prog code where
  fn := fun f F _ h => by
    simp only [code, fns] at h
    split at h
    · cases h; exact ok10
    · cases h; exact ok18
    · cases h; exact ok43
    · cases h; exact ok49
    · cases h; exact ok50
    · cases h; exact ok52
    · cases h; exact ok53
    · cases h; exact ok54
    · cases h; exact ok77
    · cases h; exact ok80
    · cases h; exact ok84
    · cases h; exact ok86
    · cases h; exact ok88
    · cases h; exact ok89
    · cases h; exact ok90
    · cases h; exact ok91
    · cases h; exact ok92
    · cases h; exact ok96
    · cases h; exact ok97
    · cases h; exact ok98
    · cases h; exact ok99
    · cases h; exact ok100
    · cases h; exact ok101
    · cases h; exact ok102
    · cases h; exact ok103
    · cases h; exact ok104
    · cases h; exact ok105
    · cases h; exact ok106
    · cases h; exact ok115
    · cases h; exact ok129
    · cases h; exact ok131
    · cases h; exact ok132
    · cases h; exact ok133
    · cases h; exact ok136
    · cases h; exact ok138
    · cases h; exact ok139
    · cases h; exact ok146
    · cases h; exact ok147
    · cases h; exact ok154
    · cases h; exact ok155
    · cases h; exact ok157
    · cases h; exact ok158
    · cases h; exact ok159
    · cases h; exact ok160
    · cases h; exact ok161
    · cases h; exact ok162
    · cases h; exact ok163
    · cases h; exact ok173
    · cases h; exact ok174
    · cases h; exact ok175
    · cases h
  nat := fun f h args E v bs hn hv => by
    simp only [code, nats] at hn
    split at hn
    · cases hn; exact ⟨⟨Try.f74, Try.func74, by kernel_rfl, by kernel_rfl⟩, natJoin_ok Try.strings_Join_none (fun bk o c xs sep w h1 h2 h3 h4 h5 => Try.strings_Join bk o c xs sep w h1 h2 h3 h4 h5) hv⟩
    · cases hn; exact ⟨⟨Try.f95, Try.func95, by kernel_rfl, by kernel_rfl⟩, C0.natBody_ok (fun a b u n at_ sv A k c w h => bodyK0 a b u n at_ sv A k c w h) (fun a b u n at_ m sv bk o c cols l w h1 h2 h3 h4 h5 h6 h7 h8 => bodyK a b u n at_ m sv bk o c cols l w h1 h2 h3 h4 h5 h6 h7 h8) hv⟩
    · cases hn; exact ⟨⟨Try.f135, Try.func135, by kernel_rfl, by kernel_rfl⟩, natRepeat_ok (fun s c w h1 h2 => Try.strings_Repeat s c w h1 h2) hv⟩
    · cases hn; exact ⟨⟨Try.f145, Try.func145, by kernel_rfl, by kernel_rfl⟩, C0.natRepI_ok (fun k bk o c w h1 h2 h3 => repK k bk o c w h1 h2 h3) hv⟩
    · cases hn
end Go.Ae.C3
