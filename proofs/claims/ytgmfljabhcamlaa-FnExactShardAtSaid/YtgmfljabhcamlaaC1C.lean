/- What compares, marks and looks again at rows of numbers. -/
import Derived.Test.YtgmfljabhcamlaaC1B
namespace Go.Ae.C1
set_option linter.unusedSimpArgs false
set_option linter.unusedVariables false
@[simp] theorem heap_succ (ts : List AV) (l : Heap) (e : List Heap) (n : Nat) : St.heap ⟨ts, l, e⟩ (n + 1) = e.getD n [] := rfl
@[simp] theorem blk_one (ts : List AV) (l : Heap) (e : List Heap) (s : Nat) : St.blk ⟨ts, l, e⟩ 1 s = (match (e.getD 0 []).get s with | some (some b) => some b | _ => none) := rfl
@[simp] theorem blk_two (ts : List AV) (l : Heap) (e : List Heap) (s : Nat) : St.blk ⟨ts, l, e⟩ 2 s = (match (e.getD 1 []).get s with | some (some b) => some b | _ => none) := rfl
@[simp] theorem put_one (ts : List AV) (l l0 : Heap) (e : List Heap) (s : Nat) (b : Option Blk) : St.put ⟨ts, l, l0 :: e⟩ 1 s b = ⟨ts, l, l0.set s b :: e⟩ := rfl
@[simp] theorem put_two (ts : List AV) (l l0 l1 : Heap) (e : List Heap) (s : Nat) (b : Option Blk) : St.put ⟨ts, l, l0 :: l1 :: e⟩ 2 s b = ⟨ts, l, l0 :: l1.set s b :: e⟩ := rfl
attribute [simp] outR List.eraseDups List.eraseDupsBy List.eraseDupsBy.loop List.idxOf List.findIdx List.findIdx.go
def rowsZ (l : List Int) : List (List AV) := l.map fun n => [AV.int .i64 n]
theorem rowsZ_len (l : List Int) : (rowsZ l).length = l.length := by simp [rowsZ]
theorem rowsZ_at {l : List Int} {i : Nat} (h : i < l.length) (h' : i < (rowsZ l).length) : (rowsZ l)[i]'h' = [.int .i64 l[i]] := by simp [rowsZ]
theorem rowsZ_set (l : List Int) (i : Nat) (x : Int) : (rowsZ l).set i [.int .i64 x] = rowsZ (l.set i x) := by simp [rowsZ]
theorem idx_succ {i n : Nat} (h : i < n) (hn : n ≤ 4000000) : IntKind.wrap .i64 ((i : Int) + 1) = ((i + 1 : Nat) : Int) := by rw [wrap64 ⟨by omega, by omega⟩]; omega


end Go.Ae.C1
