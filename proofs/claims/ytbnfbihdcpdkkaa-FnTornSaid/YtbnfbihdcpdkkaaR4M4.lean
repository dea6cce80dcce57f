/- WriteSector, the program's and the reference's, for all disks. -/
import Derived.Test.YtbnfbihdcpdkkaaR4M3
namespace Go.Ae.R4
set_option linter.unusedSimpArgs false
set_option linter.unusedVariables false
def resD (ss : List ByteArray) (ps : List (Int × ByteArray)) (e : Int) : Res := ⟨.tup [.agg [.sl 0 0 0 [] 0 ss.length, .sl 0 1 0 [] 0 ps.length], .int .i64 e], [⟨0, 1, false, true, rowsT ss⟩, ⟨0, 2, false, true, rowsP ps⟩], []⟩
abbrev dsk (ss : List ByteArray) (ps : List (Int × ByteArray)) : AV := .agg [.rd true (rowsT ss), .rd true (rowsP ps)]
def writeB (ss : List ByteArray) (ps : List (Int × ByteArray)) (a : Int) (b : ByteArray) : Bool := diskB ss ps && (secB b && (inB a 0 ((ss.length : Int) - 1) && !decide ((600 : Int) ≤ ps.length)))
set_option maxHeartbeats 4000000 in
theorem writeBad (ss : List ByteArray) (ps : List (Int × ByteArray)) (a : Int) (b : ByteArray) (h1 : ss.length ≤ 1048576) (h2 : ps.length ≤ 1048576) (hw : writeB ss ps a b = false) : ∃ e, (e != 0) = true ∧ ∀ n, call code (n + 8) 15 [dsk ss ps, .int .i64 a, .str b] [] = some (resD [] [] e) := by
  have i1 := fun n => implDisk n ss ps h1 h2
  have l1 := rowsT_len ss
  have l2 := rowsP_len ps
  have i2 := fun n => isIndex n a ss.length (by omega)
  have t0 : rowsT [] = [] := rfl
  have p0 : rowsP [] = [] := rfl
  unfold writeB at hw
  cases c1 : diskB ss ps
  · exact ⟨1, rfl, fun n => call_run rfl fn15 rfl (by simp [F15, rcall34, i1, c1, resD, t0, p0])⟩
  cases c2 : secB b
  · exact ⟨1, rfl, fun n => call_run rfl fn15 rfl (by simp [F15, rcall34, i1, c1, rcall41, sectorOk, c2, resD, t0, p0])⟩
  cases c3 : inB a 0 ((ss.length : Int) - 1)
  · exact ⟨2, rfl, fun n => call_run rfl fn15 rfl (by simp [F15, rcall34, i1, c1, rcall41, sectorOk, c2, resD, t0, p0, l1, rcall42, i2, c3])⟩
  cases c4 : decide ((600 : Int) ≤ ps.length)
  · rw [c1, c2, c3, c4] at hw; simp at hw
  · exact ⟨4, rfl, fun n => call_run rfl fn15 rfl (by simp [F15, rcall34, i1, c1, rcall41, sectorOk, c2, resD, t0, p0, l1, rcall42, i2, c3, l2, c4])⟩
set_option maxHeartbeats 4000000 in
theorem writeGood (ss : List ByteArray) (ps : List (Int × ByteArray)) (a : Int) (b : ByteArray) (h1 : ss.length ≤ 1048576) (h2 : ps.length ≤ 1048576) (hw : writeB ss ps a b = true) (n : Nat) : call code (n + 8) 15 [dsk ss ps, .int .i64 a, .str b] [] = some (resD ss (ps ++ [(a, b)]) 0) := by
  have i1 := fun n => implDisk n ss ps h1 h2
  have l1 := rowsT_len ss
  have l2 := rowsP_len ps
  have i2 := fun n => isIndex n a ss.length (by omega)
  simp only [writeB, Bool.and_eq_true, Bool.not_eq_true'] at hw
  obtain ⟨c1, c2, c3, c4⟩ := hw
  have q := c1
  simp [diskB, inB] at q
  have q3 := c3
  simp [inB] at q3
  have iw : ∀ n, call code (n + 3) 43 [.agg [.rd true (rowsT ss), .rd true (rowsP ps)], .int .i64 a, .rd true [[.str b]]] [] = some ⟨.agg [.sl 0 0 0 [] 0 ss.length, .sl 0 1 0 [] 0 (ps.length + 1)], [⟨0, 1, false, true, rowsT ss⟩, ⟨0, 2, false, true, rowsP (ps ++ [(a, b)])⟩], []⟩ :=
    fun n => writing n ss ps a [b] (by omega) (by omega) (by simp) (by omega)
  have hr : rowsP (ps ++ [(a, b)]) = rowsP ps ++ [[.int .i64 a, .str b]] := by rw [rowsP_app]; rfl
  refine call_run rfl fn15 rfl ?_
  simp [F15, rcall34, i1, c1, rcall41, sectorOk, c2, resD, l1, rcall42, i2, c3, l2, c4, rcall43, iw, hr]
end Go.Ae.R4
namespace Go.Ae.R4
set_option linter.unusedSimpArgs false
set_option linter.unusedVariables false
theorem rotOk (k : Nat) (ss : List ByteArray) (ps : List (Int × ByteArray)) (a b c : Int) (hn : ss.length ≤ 140737488351232) :
    call code (k + 3) 35 [dsk ss ps, .int .i64 a, .int .i64 b, .int .i64 c] [] = some ⟨.bool (inB a 0 ((ss.length : Int) - 1) && inB b 0 63 && inB c 1 255), [], []⟩ := by
  refine call_run rfl fn35 rfl ?_
  have l1 := rowsT_len ss
  have hi := fun k => isIndex k a ss.length hn
  have h1 := fun k => between k b 0 63
  have h2 := fun k => between k c 1 255
  cases c1 : inB a 0 ((ss.length : Int) - 1)
  · simp [F35, l1, rcall42, hi, c1]
  · cases c2 : inB b 0 63
    · simp [F35, l1, rcall42, hi, c1, rcall60, h1, c2]
    · simp [F35, l1, rcall42, hi, c1, rcall60, h1, h2, c2]
def rowsB (l : List UInt8) : List (List AV) := l.map fun b => [AV.int .u8 b.toNat]
theorem rowsOf_B (s : ByteArray) : rowsOf s = rowsB s.data.toList := rfl
theorem bytesOf_B : ∀ l : List UInt8, bytesOf (rowsB l) = some l
  | [] => rfl
  | b :: l => by
    have h := bytesOf_B l
    simp only [rowsB] at h
    simp [rowsB, bytesOf, h]
theorem rowsB_len (l : List UInt8) : (rowsB l).length = l.length := by simp [rowsB]
theorem rowsB_set (l : List UInt8) (i : Nat) (n : Nat) (h : n < 256) : (rowsB l).set i [.int .u8 n] = rowsB (l.set i (UInt8.ofNat n)) := by
  simp [rowsB, Nat.mod_eq_of_lt h]
def xorN (c : UInt8) (b : Int) : Nat := (gXor .u8 c.toNat (IntKind.wrap .u8 b)).toNat
theorem gXor8 (a b : Int) : ∃ n : Nat, gXor .u8 a b = n ∧ n < 256 := by
  unfold gXor
  refine ⟨((BitVec.ofInt IntKind.u8.bits a ^^^ BitVec.ofInt IntKind.u8.bits b).toNat % 256), ?_, Nat.mod_lt _ (by decide)⟩
  simp [IntKind.wrap, IntKind.signed, IntKind.bits]
theorem xorN_eq (c : UInt8) (b : Int) : gXor .u8 c.toNat (IntKind.wrap .u8 b) = ((xorN c b : Nat) : Int) ∧ xorN c b < 256 := by
  obtain ⟨n, h1, h2⟩ := gXor8 c.toNat (IntKind.wrap .u8 b)
  unfold xorN
  rw [h1]
  simp [h2]
def xorAt (s : ByteArray) (i : Nat) (b : Int) : ByteArray := ⟨(s.data.toList.set i (UInt8.ofNat (xorN (s.data.toList.getD i 0) b))).toArray⟩
theorem xor_facts (s : ByteArray) (i : Nat) (b : Int) (hi : i < s.size) : ∃ (c : UInt8) (n : Nat) (l : List UInt8), (∀ h, (rowsB s.data.toList)[i]'h = [AV.int .u8 c.toNat]) ∧ gXor .u8 c.toNat (IntKind.wrap .u8 b) = n ∧
    (rowsB s.data.toList).set i [.int .u8 n] = rowsB l ∧ (rowsB l).length = s.size ∧ (rowsB l).take s.size = rowsB l ∧ bytesOf (rowsB l) = some l ∧ xorAt s i b = ⟨l.toArray⟩ := by
  have hi' : i < s.data.toList.length := by simpa using hi
  have e : s.data.toList.getD i 0 = s.data.toList[i] := by rw [List.getD_eq_getElem?_getD, List.getElem?_eq_getElem hi']; rfl
  obtain ⟨x1, x2⟩ := xorN_eq (s.data.toList.getD i 0) b
  refine ⟨s.data.toList.getD i 0, xorN (s.data.toList.getD i 0) b, _, fun h => ?_, x1, rowsB_set s.data.toList i _ x2, ?_, ?_, bytesOf_B _, rfl⟩
  · rw [e]; simp [rowsB]
  · rw [rowsB_len]; simp
  · apply List.take_of_length_le; rw [rowsB_len]; simp
def rotSS (ss : List ByteArray) (a p : Nat) (b : Int) : List ByteArray := ss.set a (xorAt (ss.getD a ByteArray.empty) p b)
theorem rotten (k : Nat) (ss : List ByteArray) (ps : List (Int × ByteArray)) (a p b : Int) (h1 : ss.length ≤ 100000) (h2 : ps.length ≤ 100000) (ha : 0 ≤ a ∧ a < ss.length) (hp : 0 ≤ p ∧ p < (ss.getD a.toNat ByteArray.empty).size) :
    call code (k + 3) 36 [dsk ss ps, .int .i64 a, .int .i64 p, .int .i64 b] [] = some ⟨.agg [.sl 0 0 0 [] 0 ss.length, .sl 0 1 0 [] 0 ps.length], [⟨0, 1, false, true, rowsT (rotSS ss a.toNat p.toNat b)⟩, ⟨0, 2, false, true, rowsP ps⟩], []⟩ := by
  refine call_run rfl fn36 rfl ?_
  obtain ⟨j, rfl⟩ : ∃ i : Nat, a = i := ⟨a.toNat, by omega⟩
  obtain ⟨i, rfl⟩ : ∃ i : Nat, p = i := ⟨p.toNat, by omega⟩
  have hj : j < ss.length := by omega
  have hgd : ss.getD j ByteArray.empty = ss[j] := by simp [hj]
  simp only [Int.toNat_natCast] at hp
  rw [hgd] at hp
  have l1 := rowsT_len ss
  have l2 := rowsP_len ps
  have hc := fun k => clone k ss ps (by omega) (by omega)
  have hg0 : ∀ h, (rowsT ss)[j]'h = [AV.str ss[j]] := fun h => rowsT_at hj h
  generalize hs : ss[j] = s at hp hg0 hgd
  have hi : i < s.size := by omega
  have hl : (rowsB s.data.toList).length = s.size := by rw [rowsB_len]; simp
  obtain ⟨c, n, l, hg, x1, hset, hlen2, htk, hb, hx⟩ := xor_facts s i b hi
  have hset2 : (rowsT ss).set j [.str (xorAt s i b)] = rowsT (rotSS ss j i b) := by rw [rowsT_set]; unfold rotSS; rw [hgd]
  rw [hx] at hset2
  simp [F36, rowsOf_B, hi, hl, hg, x1, hset, hlen2, htk, hb, rcall63, hc, hj, l1, l2, hg0, hset2]
def rotB (ss : List ByteArray) (ps : List (Int × ByteArray)) (a p b : Int) : Bool := diskB ss ps && (inB a 0 ((ss.length : Int) - 1) && (inB p 0 63 && inB b 1 255))
set_option maxHeartbeats 4000000 in
theorem rotBad (ss : List ByteArray) (ps : List (Int × ByteArray)) (a p b : Int) (h1 : ss.length ≤ 1048576) (h2 : ps.length ≤ 1048576) (hw : rotB ss ps a p b = false) : ∃ e, (e != 0) = true ∧ ∀ n, call code (n + 8) 10 [dsk ss ps, .int .i64 a, .int .i64 p, .int .i64 b] [] = some (resD [] [] e) := by
  have i1 := fun n => implDisk n ss ps h1 h2
  have l1 := rowsT_len ss
  have l2 := rowsP_len ps
  have i2 := fun n => rotOk n ss ps a p b (by omega)
  have t0 : rowsT [] = [] := rfl
  have p0 : rowsP [] = [] := rfl
  unfold rotB at hw
  cases c1 : diskB ss ps
  · exact ⟨1, rfl, fun n => call_run rfl fn10 rfl (by simp [F10, rcall34, i1, c1, resD, t0, p0])⟩
  cases c3 : inB a 0 ((ss.length : Int) - 1)
  · exact ⟨2, rfl, fun n => call_run rfl fn10 rfl (by simp [F10, rcall34, i1, c1, rcall35, i2, c3, resD, t0, p0])⟩
  cases c4 : inB p 0 63
  · exact ⟨2, rfl, fun n => call_run rfl fn10 rfl (by simp [F10, rcall34, i1, c1, rcall35, i2, c3, c4, resD, t0, p0])⟩
  cases c5 : inB b 1 255
  · exact ⟨2, rfl, fun n => call_run rfl fn10 rfl (by simp [F10, rcall34, i1, c1, rcall35, i2, c3, c4, c5, resD, t0, p0])⟩
  · rw [c1, c3, c4, c5] at hw; cases hw
set_option maxHeartbeats 4000000 in
theorem rotGood (ss : List ByteArray) (ps : List (Int × ByteArray)) (a p b : Int) (h1 : ss.length ≤ 1048576) (h2 : ps.length ≤ 1048576) (hw : rotB ss ps a p b = true) (n : Nat) : call code (n + 8) 10 [dsk ss ps, .int .i64 a, .int .i64 p, .int .i64 b] [] = some (resD (rotSS ss a.toNat p.toNat b) ps 0) := by
  have i1 := fun n => implDisk n ss ps h1 h2
  have l1 := rowsT_len ss
  have l2 := rowsP_len ps
  have i2 := fun n => rotOk n ss ps a p b (by omega)
  simp only [rotB, Bool.and_eq_true] at hw
  obtain ⟨c1, c3, c4, c5⟩ := hw
  have q := c1
  simp [diskB, inB] at q
  have q3 := c3
  simp [inB] at q3
  have q4 := c4
  simp [inB] at q4
  obtain ⟨j, rfl⟩ : ∃ i : Nat, a = i := ⟨a.toNat, by omega⟩
  have hj : j < ss.length := by omega
  have hgd : ss.getD j ByteArray.empty = ss[j] := by simp [hj]
  have hall : ss.all secB = true := by simp [diskB] at c1; exact List.all_eq_true.2 c1.1.2
  have hsz : secB ss[j] = true := List.all_eq_true.1 hall _ (List.getElem_mem hj)
  have hsz' : ss[j].size = 64 := by simp [secB] at hsz; omega
  have ir := fun n => rotten n ss ps j p b (by omega) (by omega) (by omega) (by simp only [Int.toNat_natCast]; rw [hgd]; omega)
  have l3 : (rotSS ss j p.toNat b).length = ss.length := by simp [rotSS]
  refine call_run rfl fn10 rfl ?_
  simp [F10, rcall34, i1, c1, rcall35, i2, c3, c4, c5, resD, rcall36, ir, l3]
end Go.Ae.R4
