/- A disk flushed; a loss of power that keeps one write, torn. -/
import Derived.Test.YtbnfbihdcpdkkaaR4M4
namespace Go.Ae.R4
set_option linter.unusedSimpArgs false
set_option linter.unusedVariables false
def flI (ss : List ByteArray) (ps : List (Int × ByteArray)) : Nat → List ByteArray
  | 0 => ss
  | i + 1 => (flI ss ps i).set (ps.getD i (0, ByteArray.empty)).1.toNat (ps.getD i (0, ByteArray.empty)).2
theorem flI_len (ss : List ByteArray) (ps : List (Int × ByteArray)) : ∀ i, (flI ss ps i).length = ss.length
  | 0 => rfl
  | i + 1 => by simp [flI, flI_len ss ps i]
theorem flI_all {ss : List ByteArray} {ps : List (Int × ByteArray)} (h1 : ss.all secB = true) (h2 : ∀ p ∈ ps, secB p.2 = true) : ∀ i, i ≤ ps.length → (flI ss ps i).all secB = true
  | 0, _ => h1
  | i + 1, h => by
    have ih := flI_all h1 h2 i (by omega)
    have hp : secB (ps.getD i (0, ByteArray.empty)).2 = true := by
      rw [List.getD_eq_getElem?_getD, List.getElem?_eq_getElem (by omega)]
      exact h2 _ (List.getElem_mem _)
    simp only [flI]
    rw [List.all_eq_true] at ih ⊢
    intro x hx
    rcases List.mem_or_eq_of_mem_set hx with hx | rfl
    · exact ih x hx
    · exact hp
set_option maxHeartbeats 4000000 in
theorem l14Flush (k : Nat) (ss : List ByteArray) (ps : List (Int × ByteArray)) (hd : diskB ss ps = true) : call code (k + 1) 40 [dsk ss ps] [] = some ⟨.agg [.sl 0 0 0 [] 0 ss.length, .sl 0 1 0 [] 0 0], [⟨0, 1, false, true, rowsT (flI ss ps ps.length)⟩, ⟨0, 2, false, true, []⟩], []⟩ := by
  refine call_run rfl fn40 rfl ?_
  have l1 := rowsT_len ss
  have l2 := rowsP_len ps
  have q := hd
  simp [diskB, inB, goodP] at q
  have ha : ∀ x ∈ rowsT ss, x.length = 1 := fun x hx => by simp [rowsT] at hx; obtain ⟨a, _, rfl⟩ := hx; rfl
  have hb : ss.length * 16 ≤ 140737488355328 := by omega
  have hb2 : ss.length ≤ 140737488355328 := by omega
  simp [F40, evalW, source, l1, ha, hb, hb2, storeM]
  refine ⟨ha, ?_⟩
  refine RunC_loop (fun i : Nat => ⟨tm 33 [(1, .ptr 0 0 0 [] 0 0), (2, .ptr 0 256 0 [] 0 0), (3, .ptr 0 66816 0 [] 0 0), (4, .int .i64 i)],
      [(0, some (dblk ss ps)), (256, some ⟨0, 2, true, false, [[.sl 0 257 0 [] 0 0, .sl 0 258 0 [] 0 0]]⟩), (257, some ⟨0, 1, false, true, []⟩), (258, some ⟨0, 2, false, true, []⟩), (65536, some ⟨0, 1, false, true, rowsT (flI ss ps i)⟩), (66816, some ⟨0, 2, true, false, [[.sl 0 65536 0 [] 0 ss.length, .sl 0 67074 0 [] 0 0]]⟩), (66817, some ⟨0, 1, false, true, []⟩), (66818, some ⟨0, 2, false, true, []⟩), (67074, some ⟨0, 2, false, true, []⟩)], []⟩)
    (fun i => i ≤ ps.length) (fun i => ps.length - i) 0 (Nat.zero_le _) (by simp; omega) (by simp [tm, dblk, flI]) fun i hi _ => ?_
  have fl := flI_len ss ps i
  have l3 := rowsT_len (flI ss ps i)
  rw [fl] at l3
  by_cases hlt : i < ps.length
  · have hs := idx_succ' hlt (by omega)
    have hg : ∀ h, (rowsP ps)[i]'h = [.int .i64 ps[i].1, .str ps[i].2] := fun h => rowsP_at hlt h
    have hin := q.2 ps[i].1 ps[i].2 (List.getElem_mem hlt)
    have hgd : ps.getD i (0, ByteArray.empty) = ps[i] := by simp [hlt]
    have hnx : flI ss ps (i + 1) = (flI ss ps i).set ps[i].1.toNat ps[i].2 := by rw [← hgd]; rfl
    have hset := rowsT_set (flI ss ps i) ps[i].1.toNat ps[i].2
    generalize hv : ps[i].2 = v at *
    obtain ⟨a, hav⟩ : ∃ a : Nat, ps[i].1 = a := ⟨ps[i].1.toNat, by omega⟩
    rw [hav] at hset hnx hg hin
    simp only [Int.toNat_natCast] at hset hnx
    have hal : a < ss.length := by omega
    have hgl : ∀ (h : a < (rowsT (flI ss ps i)).length), ((rowsT (flI ss ps i))[a]'h).length = 1 := fun h => by simp [rowsT]
    have hgt : ∀ (h : a < (rowsT (flI ss ps i)).length), ((rowsT (flI ss ps i))[a]'h).tail = [] := fun h => by simp [rowsT]
    generalize hR' : rowsT ((flI ss ps i).set a v) = R' at *
    generalize rowsT (flI ss ps i) = R at *
    simp [tm, dblk, hlt, hs, l2, l3, hg, hal, hgl, hgt, hset, storeM]
    exact ⟨i + 1, by omega, by omega, by simp, by rw [hnx, hR']⟩
  · have : i = ps.length := by omega
    subst this
    simp [tm, dblk, l2, l3, storeM]
theorem flushDisk (k : Nat) (ss : List ByteArray) (ps : List (Int × ByteArray)) (h1 : ss.length ≤ 1048576) (h2 : ps.length ≤ 1048576) (hd : diskB ss ps = true) : call code (k + 4) 14 [dsk ss ps] [] = some ⟨.agg [.sl 0 0 0 [] 0 ss.length, .sl 0 1 0 [] 0 0], [⟨0, 1, false, true, rowsT (flI ss ps ps.length)⟩, ⟨0, 2, false, true, []⟩], []⟩ := by
  refine call_run rfl fn14 rfl ?_
  have s1 := fun n => specDisk n ss ps h1 h2
  have f1 := fun n => l14Flush n ss ps hd
  have l3 := rowsT_len (flI ss ps ps.length)
  rw [flI_len] at l3
  simp [F14, rcall13, s1, hd, rcall40, f1, storeM, l3]
/-! #### the loss -/
theorem inc1 (k : Nat) : call code (k + 1) 64 [.rd true [[.int .i64 0]]] [] = some ⟨.bool true, [], []⟩ := by
  refine call_run rfl fn64 rfl ?_
  simp [F64]
  refine RunC_once ?_
  simp
theorem btw1 (k : Nat) (a b c : Int) (v w : AV) : call code (k + 2) 74 [.int .i64 a, .rptr [.int .i64 b], .rptr [.int .i64 c]] [] = some ⟨.bool (!inB a b c), [], []⟩ := by
  refine call_run rfl fn74 rfl ?_
  have h := fun k => between k a b c
  simp [F74, rcall60, h]
theorem idx1 (k : Nat) : call code (k + 3) 75 [.rd true [[.int .i64 0]], .fn 74 [.rptr [.int .i64 0], .rptr [.int .i64 0]]] [] = some ⟨.int .i64 (-1), [], []⟩ := by
  refine call_run rfl fn75 rfl ?_
  have h := fun k => btw1 k 0 0 0 .skp .skp
  simp [F75]
  refine RunC_loop (fun i : Nat => ⟨tm 19 [(0, .rd true [[.int .i64 0]]), (1, .fn 74 [.rptr [.int .i64 0], .rptr [.int .i64 0]]), (7, .int .i64 1), (8, .int .i64 i)], [], []⟩)
    (fun i => i ≤ 1) (fun i => 1 - i) 0 (Nat.zero_le _) (by simp) (by simp [tm]) fun i hi _ => ?_
  have w1 : IntKind.wrap .i64 1 = 1 := rfl
  have md : code.md 74 = .val := rfl
  rcases (by omega : i = 0 ∨ i = 1) with rfl | rfl
  · simp [tm, evalW_callv, md, h, inB, w1]
    exact ⟨1, by omega, by omega, by simp⟩
  · simp [tm]
theorem all1 (k : Nat) : call code (k + 5) 65 [.rd true [[.int .i64 0]], .int .i64 0, .int .i64 0] [] = some ⟨.bool true, [], []⟩ := by
  have h1 : ∀ k, call code (k + 4) 73 [.rd true [[.int .i64 0]], .fn 74 [.rptr [.int .i64 0], .rptr [.int .i64 0]]] [] = some ⟨.bool false, [], []⟩ := fun k => by
    refine call_run rfl fn73 rfl ?_
    have h := fun k => idx1 k
    simp [F73, rcall75, h]
  refine call_run rfl fn65 rfl ?_
  simp [F65, rcall73, h1]
theorem lossOk (k : Nat) (ss : List ByteArray) (p : Int × ByteArray) (n : Int) (hn : 0 ≤ n ∧ n ≤ 64) : call code (k + 6) 44 [dsk ss [p], .rd true [[.int .i64 0]], .int .i64 n] [] = some ⟨.bool true, [], []⟩ := by
  refine call_run rfl fn44 rfl ?_
  have h1 := fun k => inc1 k
  have h2 := fun k => all1 k
  have h3 := fun k => between k n (-1) 64
  have c : inB n (-1) 64 = true := by simp [inB]; omega
  rw [c] at h3
  have l2 := rowsP_len [p]
  have w0 : IntKind.wrap .i64 0 = 0 := rfl
  unfold dsk
  generalize rowsP [p] = R at *
  simp only [List.length_singleton] at l2
  simp [F44, rcall64, h1, rcall65, h2, rcall60, h3, l2, w0]
/-- The sector behind a torn write. -/
def torn (n : Nat) (b s : ByteArray) : ByteArray := b.extract 0 n ++ s.extract n 64
set_option maxHeartbeats 4000000 in
theorem lost (k : Nat) (ss : List ByteArray) (a : Nat) (b s : ByteArray) (n : Nat) (hn : n ≤ 64) (hs : ss[a]? = some s) (hs64 : s.size = 64) (hb : b.size = 64) (hl : ss.length ≤ 100000) :
    call code (k + 2) 45 [dsk ss [((a : Int), b)], .rd true [[.int .i64 0]], .int .i64 n] [] = some ⟨.agg [.sl 0 0 0 [] 0 ss.length, .sl 0 1 0 [] 0 0], [⟨0, 1, false, true, rowsT (ss.set a (torn n b s))⟩, ⟨0, 2, false, true, []⟩], []⟩ := by
  refine call_run rfl fn45 rfl ?_
  have h1 := fun k => cloneS k ss (by omega)
  have l1 := rowsT_len ss
  have hal : a < ss.length := (List.getElem?_eq_some_iff.1 hs).1
  have hg : ∀ h, (rowsT ss)[a]'h = [.str s] := fun h => by
    obtain ⟨q1, q2⟩ := List.getElem?_eq_some_iff.1 hs
    rw [rowsT_at q1, q2]
  have hset := rowsT_set ss a (torn n b s)
  have l3 := rowsT_len (ss.set a (torn n b s))
  simp only [List.length_set] at l3
  have hP : rowsP [((a : Int), b)] = [[.int .i64 a, .str b]] := rfl
  simp [F45, rcall66, h1, hP]
  refine RunC_loop (fun i : Nat => ⟨tm 56 [(1, .rd true [[.int .i64 0]]), (2, .int .i64 n), (3, .ptr 0 0 0 [] 0 0), (6, .ptr 0 256 0 [] 0 0), (7, .sl 0 66048 0 [] 0 ss.length), (15, .rd true [[.int .i64 0]]), (16, .int .i64 1), (17, .int .i64 i)],
      [(0, some ⟨0, 2, true, false, [[.rd true (rowsT ss), .rd true [[.int .i64 a, .str b]]]]⟩), (256, some ⟨0, 2, true, false, [[.sl 0 257 0 [] 0 0, .sl 0 258 0 [] 0 0]]⟩), (257, some ⟨0, 1, false, true, []⟩), (258, some ⟨0, 2, false, true, []⟩), (66048, some ⟨0, 1, false, true, if i = 0 then rowsT ss else rowsT (ss.set a (torn n b s))⟩)], []⟩)
    (fun i => i ≤ 1) (fun i => 1 - i) 0 (Nat.zero_le _) (by simp) (by simp [tm]) fun i hi _ => ?_
  have w1 : IntKind.wrap .i64 1 = 1 := rfl
  have w0 : IntKind.wrap .i64 0 = 0 := rfl
  have hn' : (n : Int) ≤ 64 := by omega
  rcases (by omega : i = 0 ∨ i = 1) with rfl | rfl
  · have ht : (b.extract 0 n ++ s.extract n 64) = torn n b s := rfl
    have hsz : ((b.extract 0 n).size + (s.extract n 64).size : Nat) ≤ 128 := by simp [ByteArray.size_extract]; omega
    simp [tm, w1, w0, hb, hn', hn, hal, l1, hg, hs64, ht, hset, storeM]
    exact ⟨1, by omega, by omega, by simp⟩
  · simp [tm, storeM, l3]
theorem powerLoss (k : Nat) (ss : List ByteArray) (a : Nat) (b s : ByteArray) (n : Nat) (hn : n ≤ 64) (hs : ss[a]? = some s) (hs64 : s.size = 64) (hd : diskB ss [((a : Int), b)] = true) :
    call code (k + 7) 17 [dsk ss [((a : Int), b)], .rd true [[.int .i64 0]], .int .i64 n] [] = some (resD (ss.set a (torn n b s)) [] 0) := by
  refine call_run rfl fn17 rfl ?_
  have q := hd
  simp [diskB, inB, goodP, secB] at q
  have i1 := fun k => implDisk k ss [((a : Int), b)] (by omega) (by simp)
  have lo := fun k => lossOk k ss ((a : Int), b) n (by omega)
  have lt := fun k => lost k ss a b s n hn hs hs64 (by omega) (by omega)
  have l3 := rowsT_len (ss.set a (torn n b s))
  simp only [List.length_set] at l3
  have p0 : rowsP [] = [] := rfl
  unfold dsk at *
  generalize rowsP [((a : Int), b)] = PP at *
  simp [F17, rcall34, i1, hd, rcall44, lo, rcall45, lt, storeM, l3, resD, p0]
def tAt (m : List UInt8) : Nat := if h : 0 < m.length then m[0].toNat % 65 else 11
theorem tAt_le (m : List UInt8) : tAt m ≤ 64 := by
  unfold tAt
  split
  · have := Nat.mod_lt m[0].toNat (show 0 < 65 by omega); omega
  · omega
theorem b10At (k : Nat) (m : List UInt8) (hm : m.length ≤ 1048576) : call code (k + 1) 16 [.rd true (rws encU m), .int .i64 0, .int .i64 65] [] = some ⟨.int .i64 (tAt m : Nat), [], []⟩ := by
  refine call_run rfl fn16 rfl ?_
  have l1 := rws_len (enc := encU) m
  unfold tAt
  by_cases h : 0 < m.length
  · rw [dif_pos h]
    have hg : ∀ h', (rws encU m)[0]'h' = encU m[0] := fun h' => rws_get ..
    have hx := UInt8.toNat_lt m[0]
    have w : IntKind.wrap .i64 ((m[0].toNat : Nat) : Int) = ((m[0].toNat : Nat) : Int) := wrap64 ⟨by omega, by omega⟩
    simp only [encU] at hg
    generalize m[0].toNat = x at *
    have e : (x : Int).tmod 65 = ((x % 65 : Nat) : Int) := rfl
    generalize rws encU m = R at *
    simp [F16, l1, h, hg, w, e]
  · have w11 : (IntKind.wrap .i64 11).tmod 65 = 11 := by decide
    have w0 : IntKind.wrap .i64 0 = 0 := rfl
    generalize rws encU m = R at *
    simp [F16, l1, h, w11, w0]
end Go.Ae.R4
