/- Marks of disks. -/
import Derived.Test.YtbnfbihdcpdkkaaR3G
namespace Go.Ae.R3
set_option linter.unusedSimpArgs false
set_option linter.unusedVariables false
set_option maxHeartbeats 1000000 in
theorem markPendingS (k : Nat) (l0 l1 : Heap) (S : Nat) (ws : List (Int × ByteArray)) (c : Int) (hn : ws.length ≤ 1050000) (hc : 1 ≤ c ∧ c ≤ 1500000) (hl : l1.get S = some (some ⟨0, 2, false, true, rowsP ws⟩)) :
    call code (k + 2) 51 [.sl 2 S 0 [] 0 ws.length, .int .i64 c] [l0, l1] = some ⟨.int .i64 (c + 2 * ws.length), [], [l0, hp l1 S (bP c ws) ws.length]⟩ := by
  refine call_run rfl fn51 rfl ?_
  simp [F51]
  refine RunC_loop (fun i : Nat => ⟨[.sl 2 S 0 [] 0 ws.length, .int .i64 (c + 2 * i), .undef, .undef, .undef, .int .i64 i] ++ List.replicate 22 .undef, [], [l0, hp l1 S (bP c ws) i]⟩)
    (fun i => i ≤ ws.length) (fun i => ws.length - i) 0 (Nat.zero_le _) (by simp; omega) (by simp [hp]) fun i hi _ => ?_
  have hg : (hp l1 S (bP c ws) i).get S = some (some (bP c ws i)) := hp_get (by simpa [bP, mix_zero] using hl) i
  have hml := mix_len (f := mP c) hi
  have hrl := rowsP_len (mix (mP c) ws i)
  rw [hml] at hrl
  by_cases hlt : i < ws.length
  · have hlt' : i < (mix (mP c) ws i).length := by omega
    have hgi : ∀ h, (rowsP (mix (mP c) ws i))[i]'h = [AV.int .i64 ((mix (mP c) ws i)[i]).1, AV.str ((mix (mP c) ws i)[i]).2] := fun h => rowsP_at hlt' h
    have hs := idx_succ (i := i) hlt (by omega)
    have hs2 : IntKind.wrap .i64 (c + 2 * (i : Int) + 1) = c + 2 * (i : Int) + 1 := wrap64 ⟨by omega, by omega⟩
    have hs3 : IntKind.wrap .i64 (c + 2 * (i : Int) + 1 + 1) = c + 2 * ((i + 1 : Nat) : Int) := by rw [wrap64 ⟨by omega, by omega⟩]; omega
    have hmt := fun k => markTextI k (c + 2 * (i : Int) + 1) (by omega)
    have hset : (rowsP (mix (mP c) ws i)).set i [.int .i64 (c + 2 * (i : Int)), .str (mtext (c + 2 * (i : Int) + 1))] = rowsP (mix (mP c) ws (i + 1)) := by rw [rowsP_set, ← mix_set hlt]; rfl
    have hhs : (hp l1 S (bP c ws) i).set S (some ⟨0, 2, false, true, rowsP (mix (mP c) ws (i + 1))⟩) = hp l1 S (bP c ws) (i + 1) := hp_set i
    simp only [bP] at hg
    simp [hlt, hg, hrl, hgi, hs, hs2, hs3, rcall57, hmt, hset, hhs, get_set, set_set_same]
    exact ⟨i + 1, by omega, by omega, by simp, rfl⟩
  · have : i = ws.length := by omega
    subst this
    simp only [bP] at hg
    simp [hg]
def marksT (c : Int) (n : Nat) : List ByteArray := (List.range n).map (mT c)
def marksP (c : Int) (n : Nat) : List (Int × ByteArray) := (List.range n).map (mP c)
theorem heldStringS (k : Nat) (n : Nat) (c : Int) (hn : n ≤ 1050000) (hc : 1 ≤ c ∧ c ≤ 2900000) :
    call code (k + 2) 52 [.rd true (rowsT (marksT c n)), .int .i64 c] [] = some ⟨.int .i64 (c + n), [], []⟩ := by
  refine call_run rfl fn52 rfl ?_
  simp [F52]
  refine RunC_loop (fun i : Nat => ⟨[.rd true (rowsT (marksT c n)), .int .i64 (c + i), .undef, .undef, .undef, .int .i64 i] ++ List.replicate 16 .undef, [], []⟩)
    (fun i => i ≤ n) (fun i => n - i) 0 (Nat.zero_le _) (by simp; omega) (by simp) fun i hi _ => ?_
  have hrl : (rowsT (marksT c n)).length = n := by simp [rowsT, marksT]
  by_cases hlt : i < n
  · have hgi : ∀ h, (rowsT (marksT c n))[i]'h = [AV.str (mtext (c + i))] := fun h => by simp [rowsT, marksT, mT]
    have hs := idx_succ (i := i) hlt (by omega)
    have hs2 : IntKind.wrap .i64 (c + (i : Int) + 1) = c + ((i + 1 : Nat) : Int) := by rw [wrap64 ⟨by omega, by omega⟩]; omega
    have hmt := fun k => markTextI k (c + i) (by omega)
    simp [hlt, hrl, hgi, hs, hs2, rcall57, hmt]
    exact ⟨i + 1, by omega, by omega, by simp⟩
  · have : i = n := by omega
    subst this
    simp [hrl]
theorem heldPendingS (k : Nat) (n : Nat) (c : Int) (hn : n ≤ 1050000) (hc : 1 ≤ c ∧ c ≤ 1500000) :
    call code (k + 2) 53 [.rd true (rowsP (marksP c n)), .int .i64 c] [] = some ⟨.int .i64 (c + 2 * n), [], []⟩ := by
  refine call_run rfl fn53 rfl ?_
  simp [F53]
  refine RunC_loop (fun i : Nat => ⟨[.rd true (rowsP (marksP c n)), .int .i64 (c + 2 * i), .undef, .undef, .undef, .int .i64 i] ++ List.replicate 26 .undef, [], []⟩)
    (fun i => i ≤ n) (fun i => n - i) 0 (Nat.zero_le _) (by simp; omega) (by simp) fun i hi _ => ?_
  have hrl : (rowsP (marksP c n)).length = n := by simp [rowsP, marksP]
  by_cases hlt : i < n
  · have hgi : ∀ h, (rowsP (marksP c n))[i]'h = [AV.int .i64 (c + 2 * i), AV.str (mtext (c + 2 * i + 1))] := fun h => by simp [rowsP, marksP, mP]
    have hs := idx_succ (i := i) hlt (by omega)
    have hs2 : IntKind.wrap .i64 (c + 2 * (i : Int) + 1) = c + 2 * (i : Int) + 1 := wrap64 ⟨by omega, by omega⟩
    have hs3 : IntKind.wrap .i64 (c + 2 * (i : Int) + 1 + 1) = c + 2 * ((i + 1 : Nat) : Int) := by rw [wrap64 ⟨by omega, by omega⟩]; omega
    have hmt := fun k => markTextI k (c + 2 * (i : Int) + 1) (by omega)
    simp [hlt, hrl, hgi, hs, hs2, hs3, rcall57, hmt]
    exact ⟨i + 1, by omega, by omega, by simp⟩
  · have : i = n := by omega
    subst this
    simp [hrl]
theorem hp_ne {l : Heap} {S T : Nat} {b : Nat → Blk} (h : T ≠ S) (i : Nat) : (hp l S b i).get T = l.get T := by
  unfold hp
  split
  · rfl
  · rw [get_set, if_neg h]
theorem markDisk (k : Nat) (l1 : Heap) (S T : Nat) (ss : List ByteArray) (ps : List (Int × ByteArray)) (c : Int) (hn : ss.length ≤ 1050000) (hn2 : ps.length ≤ 1050000) (hc : 1 ≤ c ∧ c ≤ 100) (hne : T ≠ S)
    (hs : l1.get S = some (some ⟨0, 1, false, true, rowsT ss⟩)) (ht : l1.get T = some (some ⟨0, 2, false, true, rowsP ps⟩)) :
    call code (k + 3) 22 [.agg [.sl 1 S 0 [] 0 ss.length, .sl 1 T 0 [] 0 ps.length], .int .i64 c] [l1] = some ⟨.int .i64 (c + ss.length + 2 * ps.length), [], [hp (hp l1 S (bT c ss) ss.length) T (bP (c + ss.length) ps) ps.length]⟩ := by
  refine call_run rfl fn22 rfl ?_
  have h1 := fun k l0 => markStringS k l0 l1 S ss c hn (by omega) hs
  have h2 := fun k l0 => markPendingS k l0 (hp l1 S (bT c ss) ss.length) T ps (c + ss.length) hn2 (by omega) (by rw [hp_ne hne]; exact ht)
  simp [F22, rcall30, h1, rcall51, h2]
theorem heldDisk (k : Nat) (n m : Nat) (c : Int) (hn : n ≤ 1050000) (hm : m ≤ 1050000) (hc : 1 ≤ c ∧ c ≤ 100) :
    call code (k + 3) 23 [.agg [.rd true (rowsT (marksT c n)), .rd true (rowsP (marksP (c + n) m))], .int .i64 c] [] = some ⟨.int .i64 (c + n + 2 * m), [], []⟩ := by
  refine call_run rfl fn23 rfl ?_
  have h1 := fun k => heldStringS k n c hn (by omega)
  have h2 := fun k => heldPendingS k m (c + n) hm (by omega)
  have d1 : decide (c + (n : Int) < 0) = false := by simp; omega
  have d2 : decide (c + (n : Int) + 2 * (m : Int) < 0) = false := by simp; omega
  simp [F23, rcall52, h1, d1, rcall53, h2, d2]
end Go.Ae.R3
