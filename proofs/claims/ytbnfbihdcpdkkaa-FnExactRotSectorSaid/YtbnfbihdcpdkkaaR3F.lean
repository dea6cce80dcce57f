/- WriteSector, the program's and the reference's, for all disks. -/
import Derived.Test.YtbnfbihdcpdkkaaR3E
namespace Go.Ae.R3
set_option linter.unusedSimpArgs false
set_option linter.unusedVariables false
def resD (ss : List ByteArray) (ps : List (Int × ByteArray)) (e : Int) : Res := ⟨.tup [.agg [.sl 0 0 0 [] 0 ss.length, .sl 0 1 0 [] 0 ps.length], .int .i64 e], [⟨0, 1, false, true, rowsT ss⟩, ⟨0, 2, false, true, rowsP ps⟩], []⟩
abbrev dsk (ss : List ByteArray) (ps : List (Int × ByteArray)) : AV := .agg [.rd true (rowsT ss), .rd true (rowsP ps)]
/-- What both answer. -/
def WS (ss : List ByteArray) (ps : List (Int × ByteArray)) (a : Int) (b : ByteArray) (r : Res) : Prop :=
  ∃ ts qs e, r = resD ts qs e ∧ ts.length ≤ 1050000 ∧ qs.length ≤ 1050000 ∧
    (∀ n, call code (n + 8) 19 [dsk ss ps, .int .i64 a, .str b] [] = some r) ∧
    (∀ n, call code (n + 8) 15 [dsk ss ps, .int .i64 a, .str b] [] = some r)
set_option maxHeartbeats 4000000 in
theorem writeSector (ss : List ByteArray) (ps : List (Int × ByteArray)) (a : Int) (b : ByteArray) (h1 : ss.length ≤ 1048576) (h2 : ps.length ≤ 1048576) : ∃ r, WS ss ps a b r := by
  have i1 := fun n => implDisk n ss ps h1 h2
  have s1 := fun n => specDisk n ss ps h1 h2
  have l1 := rowsT_len ss
  have l2 := rowsP_len ps
  have i2 := fun n => isIndex n a ss.length (by omega)
  have s2 := fun n => l14Has n a ss ps (by omega)
  have t0 : rowsT [] = [] := rfl
  have p0 : rowsP [] = [] := rfl
  cases c1 : diskB ss ps
  · refine ⟨_, [], [], 1, rfl, by simp, by simp, fun n => call_run rfl fn19 rfl ?_, fun n => call_run rfl fn15 rfl ?_⟩
    · simp [F19, rcall13, s1, c1, resD, t0, p0]
    · simp [F15, rcall34, i1, c1, resD, t0, p0]
  · have q := c1
    simp [diskB, inB] at q
    cases c2 : secB b
    · have c2' : ((b.size : Int) != 64) = true := by simpa [secB] using c2
      refine ⟨_, [], [], 1, rfl, by simp, by simp, fun n => call_run rfl fn19 rfl ?_, fun n => call_run rfl fn15 rfl ?_⟩
      · simp [F19, rcall13, s1, c1, c2', resD, t0, p0]
      · simp [F15, rcall34, i1, c1, rcall41, sectorOk, c2, resD, t0, p0]
    · have c2' : ((b.size : Int) != 64) = false := by simpa [secB] using c2
      cases c3 : inB a 0 ((ss.length : Int) - 1)
      · refine ⟨_, [], [], 2, rfl, by simp, by simp, fun n => call_run rfl fn19 rfl ?_, fun n => call_run rfl fn15 rfl ?_⟩
        · simp [F19, rcall13, s1, c1, c2', resD, t0, p0, rcall47, s2, c3]
        · simp [F15, rcall34, i1, c1, rcall41, sectorOk, c2, resD, t0, p0, l1, rcall42, i2, c3]
      · have q3 := c3
        simp [inB] at q3
        cases c4 : decide ((600 : Int) ≤ ps.length)
        · have so := fun n => own n ss ps (by omega) (by omega)
          have iw : ∀ n, call code (n + 3) 43 [.agg [.rd true (rowsT ss), .rd true (rowsP ps)], .int .i64 a, .rd true [[.str b]]] [] = some ⟨.agg [.sl 0 0 0 [] 0 ss.length, .sl 0 1 0 [] 0 (ps.length + 1)], [⟨0, 1, false, true, rowsT ss⟩, ⟨0, 2, false, true, rowsP (ps ++ [(a, b)])⟩], []⟩ :=
            fun n => writing n ss ps a [b] (by omega) (by omega) (by simp) (by omega)
          have hr : rowsP (ps ++ [(a, b)]) = rowsP ps ++ [[.int .i64 a, .str b]] := by rw [rowsP_app]; rfl
          refine ⟨_, ss, ps ++ [(a, b)], 0, rfl, by omega, by simp; omega, fun n => call_run rfl fn19 rfl ?_, fun n => call_run rfl fn15 rfl ?_⟩
          · simp [F19, rcall13, s1, c1, c2', resD, t0, p0, rcall47, s2, c3, l2, c4, rcall48, so, evalW, source, hr, l1]
            omega
          · simp [F15, rcall34, i1, c1, rcall41, sectorOk, c2, resD, t0, p0, l1, rcall42, i2, c3, l2, c4, rcall43, iw, hr]
        · refine ⟨_, [], [], 4, rfl, by simp, by simp, fun n => call_run rfl fn19 rfl ?_, fun n => call_run rfl fn15 rfl ?_⟩
          · simp [F19, rcall13, s1, c1, c2', resD, t0, p0, rcall47, s2, c3, l2, c4]
          · simp [F15, rcall34, i1, c1, rcall41, sectorOk, c2, resD, t0, p0, l1, rcall42, i2, c3, l2, c4]
end Go.Ae.R3
