/- Writing to a disk, twice told. -/
import Derived.Test.YtbnfbihdcpdkkaaR3D
namespace Go.Ae.R3
set_option linter.unusedSimpArgs false
set_option linter.unusedVariables false
def wrs : Int → List ByteArray → List (Int × ByteArray)
  | _, [] => []
  | a, s :: r => (a, s) :: wrs (a + 1) r
theorem wrs_len : ∀ (a : Int) (l : List ByteArray), (wrs a l).length = l.length
  | _, [] => rfl
  | a, s :: r => by simp [wrs, wrs_len (a + 1) r]
theorem wrs_snoc : ∀ (a : Int) (l : List ByteArray) (s : ByteArray), wrs a (l ++ [s]) = wrs a l ++ [(a + l.length, s)]
  | a, [], s => by simp [wrs]
  | a, t :: r, s => by
    simp only [List.cons_append, wrs, wrs_snoc (a + 1) r s, List.length_cons]
    congr 3
    simp
    omega
theorem wrs_take {a : Int} {l : List ByteArray} {i : Nat} (h : i < l.length) : wrs a (l.take (i + 1)) = wrs a (l.take i) ++ [(a + i, l[i])] := by
  rw [List.take_succ_eq_append_getElem h, wrs_snoc]
  congr 3
  simp; omega
theorem rowsP_app (a b : List (Int × ByteArray)) : rowsP (a ++ b) = rowsP a ++ rowsP b := by simp [rowsP]
theorem writing (k : Nat) (ss : List ByteArray) (ps : List (Int × ByteArray)) (a : Int) (l : List ByteArray) (h1 : ss.length ≤ 100000) (h2 : ps.length ≤ 100000) (h3 : l.length ≤ 100000) (ha : -1000000 ≤ a ∧ a ≤ 1000000) :
    call code (k + 3) 43 [.agg [.rd true (rowsT ss), .rd true (rowsP ps)], .int .i64 a, .rd true (rowsT l)] [] = some ⟨.agg [.sl 0 0 0 [] 0 ss.length, .sl 0 1 0 [] 0 (ps.length + l.length)], [⟨0, 1, false, true, rowsT ss⟩, ⟨0, 2, false, true, rowsP (ps ++ wrs a l)⟩], []⟩ := by
  refine call_run rfl fn43 rfl ?_
  have l1 := rowsT_len ss
  have l2 := rowsP_len ps
  have l3 := rowsT_len l
  have hc := fun k => clone k ss ps (by omega) (by omega)
  simp [F43, l1, l2, l3, rcall63, hc]
  refine RunC_loop (fun i : Nat => ⟨[.undef, .int .i64 a, .undef, .undef, .undef, .undef, .ptr 0 256 0 [] 0 0, .ptr 0 66048 0 [] 0 0, .undef, .undef, .undef, .undef, .rd true (rowsT l), .int .i64 l.length, .int .i64 i] ++ List.replicate 16 .undef,
      [(0, some (dblk ss ps)), (256, some ⟨0, 2, true, false, [[.sl 0 257 0 [] 0 0, .sl 0 258 0 [] 0 0]]⟩), (257, some ⟨0, 1, false, true, []⟩), (258, some ⟨0, 2, false, true, []⟩), (65792, some ⟨0, 1, false, true, rowsT ss⟩),
        (65793, some ⟨0, 2, false, true, rowsP (ps ++ wrs a (l.take i))⟩), (66048, some ⟨0, 2, true, false, [[.sl 0 65792 0 [] 0 ss.length, .sl 0 65793 0 [] 0 (ps.length + i)]]⟩), (66049, some ⟨0, 1, false, true, []⟩), (66050, some ⟨0, 2, false, true, []⟩)], []⟩)
    (fun i => i ≤ l.length) (fun i => l.length - i) 0 (Nat.zero_le _) (by simp; omega) (by simp [dblk, wrs]) fun i hi _ => ?_
  have hrl := rowsP_len (ps ++ wrs a (l.take i))
  rw [List.length_append, wrs_len, List.length_take, Nat.min_eq_left hi] at hrl
  by_cases hlt : i < l.length
  · have hg : ∀ h, (rowsT l)[i]'h = [AV.str l[i]] := fun h => rowsT_at hlt h
    have hs := idx_succ (i := i) hlt (by omega)
    have e1 : IntKind.wrap .i64 (a + (i : Int)) = a + i := wrap64 ⟨by omega, by omega⟩
    have hw : rowsP (ps ++ wrs a (l.take (i + 1))) = rowsP (ps ++ wrs a (l.take i)) ++ [[.int .i64 (a + i), .str l[i]]] := by rw [wrs_take hlt, ← List.append_assoc, rowsP_app]; rfl
    simp [hlt, hrl, l3, hg, hs, e1, dblk, evalW, source]
    exact ⟨⟨by omega, by omega⟩, i + 1, by omega, by omega, by simp, by simp [hw]; omega⟩
  · have : i = l.length := by omega
    subst this
    simp [hrl, l1, dblk]
end Go.Ae.R3
