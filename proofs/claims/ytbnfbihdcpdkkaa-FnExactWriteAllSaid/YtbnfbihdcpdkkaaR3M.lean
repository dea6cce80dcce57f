/- WriteAll, the program's and the reference's. -/
import Derived.Test.YtbnfbihdcpdkkaaR3L
namespace Go.Ae.R3
set_option linter.unusedSimpArgs false
set_option linter.unusedVariables false
/-- Are the places right? -/
def waB (n : Nat) (a : Int) (m : Nat) : Bool := decide ((m : Int) > 0) && (!inB a 0 ((n : Int) - 1) || decide ((m : Int) > (n : Int) - a))
def WAr (ss : List ByteArray) (ps : List (Int × ByteArray)) (a : Int) (l : List ByteArray) : Res := if diskB ss ps && l.all secB then (if waB ss.length a l.length then resD [] [] 2 else if decide ((ps.length : Int) + l.length > 600) then resD [] [] 4 else resD ss (ps ++ wrs a l) 0) else resD [] [] 1
theorem writing0 (k : Nat) (ss : List ByteArray) (ps : List (Int × ByteArray)) (a : Int) (h1 : ss.length ≤ 100000) (h2 : ps.length ≤ 100000) :
    call code (k + 3) 43 [.agg [.rd true (rowsT ss), .rd true (rowsP ps)], .int .i64 a, .rd true []] [] = some ⟨.agg [.sl 0 0 0 [] 0 ss.length, .sl 0 1 0 [] 0 ps.length], [⟨0, 1, false, true, rowsT ss⟩, ⟨0, 2, false, true, rowsP ps⟩], []⟩ := by
  refine call_run rfl fn43 rfl ?_
  have l1 := rowsT_len ss
  have l2 := rowsP_len ps
  have hc := fun k => clone k ss ps (by omega) (by omega)
  simp [F43, l1, l2, rcall63, hc]
  refine RunC_once ?_
  simp [l1, l2]
set_option maxHeartbeats 4000000 in
theorem implAll (k : Nat) (ss : List ByteArray) (ps : List (Int × ByteArray)) (a : Int) (l : List ByteArray) (h1 : ss.length ≤ 1048576) (h2 : ps.length ≤ 1048576) (h3 : l.length ≤ 1048576) :
    call code (k + 8) 28 [dsk ss ps, .int .i64 a, .rd true (rowsT l)] [] = some (WAr ss ps a l) := by
  have i1 := fun n => implDisk n ss ps h1 h2
  have l1 := rowsT_len ss
  have l2 := rowsP_len ps
  have l3 := rowsT_len l
  have t0 : rowsT [] = [] := rfl
  have p0 : rowsP [] = [] := rfl
  have ab := fun n => anyBadS n l h3
  have ii := fun n => isIndex n a ss.length (by omega)
  unfold WAr
  refine call_run rfl fn28 rfl ?_
  cases c1 : diskB ss ps
  · simp [F28, rcall34, i1, c1, resD, t0, p0]
  · have q := c1
    simp [diskB, inB] at q
    cases c2 : l.all secB
    · simp [F28, rcall34, i1, c1, rcall55, ab, c2, resD, t0, p0]
    · cases c3 : decide (0 < l.length)
      · have c3' := of_decide_eq_false c3
        have hl0 : l.length = 0 := by omega
        have hl : l = [] := List.length_eq_zero_iff.1 hl0
        subst hl
        have iw := fun n => writing0 n ss ps a (by omega) (by omega)
        have hw : waB ss.length a ([] : List ByteArray).length = false := by simp [waB]
        have c5 : decide ((ps.length : Int) + (([] : List ByteArray).length : Nat) > 600) = false := by simp; omega
        have e5 : IntKind.wrap .i64 (ps.length : Int) = ps.length := wrap64 ⟨by omega, by omega⟩
        have c5' : decide ((600 : Int) < (ps.length : Int)) = false := by simp; omega
        rw [hw, c5]
        rw [t0] at ab
        simp [F28, rcall34, i1, c1, rcall55, ab, c2, l1, l2, l3, t0, e5, c5', rcall43, iw, resD, wrs]
      · have c3' := of_decide_eq_true c3
        cases c4 : inB a 0 ((ss.length : Int) - 1)
        · have hw : waB ss.length a l.length = true := by simp [waB, c4]; omega
          rw [hw]
          simp [F28, rcall34, i1, c1, rcall55, ab, c2, l1, l2, l3, c3, rcall42, ii, c4, resD, t0, p0]
        · have q4 := c4
          simp [inB] at q4
          have e1 : IntKind.wrap .i64 ((ss.length : Int) - a) = (ss.length : Int) - a := wrap64 ⟨by omega, by omega⟩
          have e2 : IntKind.wrap .i64 ((ps.length : Int) + (l.length : Int)) = (ps.length : Int) + (l.length : Int) := wrap64 ⟨by omega, by omega⟩
          cases c5 : decide ((ss.length : Int) - a < l.length)
          · have hw : waB ss.length a l.length = false := by simp [waB, c4]; intro _; exact Int.not_lt.1 (of_decide_eq_false c5)
            rw [hw]
            cases c6 : decide ((600 : Int) < (ps.length : Int) + l.length)
            · have q5 := of_decide_eq_false c5
              have iw := fun n => writing n ss ps a l (by omega) (by omega) (by omega) (by omega)
              have c6' : decide ((ps.length : Int) + l.length > 600) = false := c6
              simp [F28, rcall34, i1, c1, rcall55, ab, c2, l1, l2, l3, c3, rcall42, ii, c4, e1, c5, e2, c6, rcall43, iw, resD, wrs_len]
            · have c6' : decide ((ps.length : Int) + l.length > 600) = true := c6
              simp [F28, rcall34, i1, c1, rcall55, ab, c2, l1, l2, l3, c3, rcall42, ii, c4, e1, c5, e2, c6, resD, t0, p0]
          · have hw : waB ss.length a l.length = true := by simp [waB, c4]; have := of_decide_eq_true c5; omega
            rw [hw]
            simp [F28, rcall34, i1, c1, rcall55, ab, c2, l1, l2, l3, c3, rcall42, ii, c4, e1, c5, resD, t0, p0]
end Go.Ae.R3
