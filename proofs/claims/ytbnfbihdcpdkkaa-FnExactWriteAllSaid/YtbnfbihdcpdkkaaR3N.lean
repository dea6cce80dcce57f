/- WriteAll, the reference's. -/
import Derived.Test.YtbnfbihdcpdkkaaR3M
namespace Go.Ae.R3
set_option linter.unusedSimpArgs false
set_option linter.unusedVariables false
def tm (n : Nat) (l : List (Nat × AV)) : List AV := l.foldl (fun a p => a.set p.1 p.2) (List.replicate n .undef)
def eblk (s : Nat) : Heap := [(s, some ⟨0, 2, true, false, [[.sl 0 (s + 1) 0 [] 0 0, .sl 0 (s + 2) 0 [] 0 0]]⟩), (s + 1, some ⟨0, 1, false, true, []⟩), (s + 2, some ⟨0, 2, false, true, []⟩)]
set_option maxHeartbeats 16000000 in
theorem specAll (k : Nat) (ss : List ByteArray) (ps : List (Int × ByteArray)) (a : Int) (l : List ByteArray) (h1 : ss.length ≤ 1048576) (h2 : ps.length ≤ 1048576) (h3 : l.length ≤ 1048576) :
    call code (k + 8) 26 [dsk ss ps, .int .i64 a, .rd true (rowsT l)] [] = some (WAr ss ps a l) := by
  have s1 := fun n => specDisk n ss ps h1 h2
  have l1 := rowsT_len ss
  have l2 := rowsP_len ps
  have l3 := rowsT_len l
  have t0 : rowsT [] = [] := rfl
  have p0 : rowsP [] = [] := rfl
  have s2 := fun n => l14Has n a ss ps (by omega)
  refine call_run rfl fn26 rfl ?_
  cases c1 : diskB ss ps
  · have hr : WAr ss ps a l = resD [] [] 1 := by simp [WAr, c1]
    simp [F26, rcall13, s1, c1, hr, resD, t0, p0]
  · have q := c1
    simp [diskB, inB] at q
    have so := fun n => own n ss ps (by omega) (by omega)
    simp [F26, rcall13, s1, c1, l1, l2]
    refine RunC_loop (fun i : Nat => ⟨tm 79 [(1, .int .i64 a), (2, .rd true (rowsT l)), (3, .ptr 0 0 0 [] 0 0), (6, .ptr 0 256 0 [] 0 0), (8, .int .i64 i)], (0, some (dblk ss ps)) :: eblk 256, []⟩)
      (fun i => i ≤ l.length ∧ ∀ j (h : j < l.length), j < i → secB l[j] = true) (fun i => l.length - i) 0 ⟨Nat.zero_le _, by simp⟩ (by simp; omega) (by simp [dblk, tm, eblk]) fun i hi _ => ?_
    obtain ⟨hi, hall⟩ := hi
    by_cases hlt : i < l.length
    · have hg : ∀ h, (rowsT l)[i]'h = [AV.str l[i]] := fun h => rowsT_at hlt h
      have hs := idx_succ (i := i) hlt (by omega)
      cases hb : secB l[i]
      · have hb' : ((l[i].size : Int) != 64) = true := by simpa [secB] using hb
        have hf : l.all secB = false := List.all_eq_false.2 ⟨l[i], List.getElem_mem hlt, by simp [hb]⟩
        have hr : WAr ss ps a l = resD [] [] 1 := by simp only [WAr, c1, hf]; simp
        simp [tm, eblk, hlt, l1, l2, l3, hg, dblk, hb', hs, hr, resD, t0, p0]
      · have hb' : ((l[i].size : Int) != 64) = false := by simpa [secB] using hb
        simp [tm, eblk, hlt, l1, l2, l3, hg, dblk, hb', hs]
        exact ⟨i + 1, ⟨by omega, fun j h hj => by rcases Nat.lt_succ_iff_lt_or_eq.1 hj with h' | rfl; exact hall j h h'; exact hb⟩, by omega, by simp⟩
    · have : i = l.length := by omega
      subst this
      have c2 : l.all secB = true := List.all_eq_true.2 fun x hx => by obtain ⟨j, hj, rfl⟩ := List.getElem_of_mem hx; exact hall j hj hj
      cases c3 : decide (0 < l.length)
      · have c3' := of_decide_eq_false c3
        have hl0 : l.length = 0 := by omega
        have hl : l = [] := List.length_eq_zero_iff.1 hl0
        subst hl
        have hw : waB ss.length a ([] : List ByteArray).length = false := by simp [waB]
        have c5 : decide ((ps.length : Int) + (([] : List ByteArray).length : Nat) > 600) = false := by simp; omega
        have e5 : IntKind.wrap .i64 (600 - (ps.length : Int)) = 600 - ps.length := wrap64 ⟨by omega, by omega⟩
        have c5' : decide (600 - (ps.length : Int) < 0) = false := by simp; omega
        have hr : WAr ss ps a [] = resD ss (ps ++ wrs a []) 0 := by simp only [WAr, c1, c2, hw, c5]; simp
        simp [hr, tm, eblk, l1, l2, l3, t0, dblk, e5, c5', rcall48, so, resD, wrs]
        refine RunC_once ?_
        simp [l1, l2]
      · have c3' := of_decide_eq_true c3
        cases c4 : inB a 0 ((ss.length : Int) - 1)
        · have hw : waB ss.length a l.length = true := by simp [waB, c4]; omega
          have hr : WAr ss ps a l = resD [] [] 2 := by simp only [WAr, c1, c2, hw]; simp
          simp [hr, tm, eblk, l1, l2, l3, dblk, c2, c3, rcall47, s2, c4, resD, t0, p0]
        · have q4 := c4
          simp [inB] at q4
          have e1 : IntKind.wrap .i64 ((ss.length : Int) - a) = (ss.length : Int) - a := wrap64 ⟨by omega, by omega⟩
          have e2 : IntKind.wrap .i64 (600 - (ps.length : Int)) = 600 - ps.length := wrap64 ⟨by omega, by omega⟩
          cases c5 : decide ((ss.length : Int) - a < l.length)
          · have hw : waB ss.length a l.length = false := by simp [waB, c4]; intro _; exact Int.not_lt.1 (of_decide_eq_false c5)
            cases c6 : decide (600 - (ps.length : Int) < l.length)
            · have q5 := of_decide_eq_false c5
              have q6 := of_decide_eq_false c6
              have c6' : decide ((ps.length : Int) + l.length > 600) = false := by simp; omega
              have hr : WAr ss ps a l = resD ss (ps ++ wrs a l) 0 := by simp only [WAr, c1, c2, hw, c6']; simp
              simp [hr, tm, eblk, l1, l2, l3, dblk, c2, c3, rcall47, s2, c4, e1, c5, e2, c6, rcall48, so, resD]
              refine RunC_loop (fun i : Nat => ⟨tm 79 [(1, .int .i64 a), (2, .rd true (rowsT l)), (6, .ptr 0 256 0 [] 0 0), (9, .int .i64 l.length), (10, .ptr 0 852480 0 [] 0 0), (11, .int .i64 i)],
                    (0, some (dblk ss ps)) :: (eblk 256 ++ [(852224, some ⟨0, 1, false, true, rowsT ss⟩), (852225, some ⟨0, 2, false, true, rowsP (ps ++ wrs a (l.take i))⟩),
                      (852480, some ⟨0, 2, true, false, [[.sl 0 852224 0 [] 0 ss.length, .sl 0 852225 0 [] 0 (ps.length + i)]]⟩), (852481, some ⟨0, 1, false, true, []⟩), (852482, some ⟨0, 2, false, true, []⟩)]), []⟩)
                (fun i => i ≤ l.length) (fun i => l.length - i) 0 (Nat.zero_le _) (by simp; omega) (by simp [dblk, tm, eblk, wrs]) fun i hi _ => ?_
              have hrl := rowsP_len (ps ++ wrs a (l.take i))
              rw [List.length_append, wrs_len, List.length_take, Nat.min_eq_left hi] at hrl
              by_cases hlt : i < l.length
              · have hg : ∀ h, (rowsT l)[i]'h = [AV.str l[i]] := fun h => rowsT_at hlt h
                have hs := idx_succ (i := i) hlt (by omega)
                have e1 : IntKind.wrap .i64 (a + (i : Int)) = a + i := wrap64 ⟨by omega, by omega⟩
                have hw : rowsP (ps ++ wrs a (l.take (i + 1))) = rowsP (ps ++ wrs a (l.take i)) ++ [[.int .i64 (a + i), .str l[i]]] := by rw [wrs_take hlt, ← List.append_assoc, rowsP_app]; rfl
                simp [tm, eblk, hlt, hrl, l3, hg, hs, e1, dblk, evalW, source]
                exact ⟨⟨by omega, by omega⟩, i + 1, by omega, by omega, by simp, by simp [hw]; omega⟩
              · have : i = l.length := by omega
                subst this
                simp [tm, eblk, hrl, l1, dblk, wrs_len]
            · have q6 := of_decide_eq_true c6
              have c6' : decide ((ps.length : Int) + l.length > 600) = true := by simp; omega
              have hr : WAr ss ps a l = resD [] [] 4 := by simp only [WAr, c1, c2, hw, c6']; simp
              simp [hr, tm, eblk, l1, l2, l3, dblk, c2, c3, rcall47, s2, c4, e1, c5, e2, c6, resD, t0, p0]
          · have hw : waB ss.length a l.length = true := by simp [waB, c4]; have := of_decide_eq_true c5; omega
            have hr : WAr ss ps a l = resD [] [] 2 := by simp only [WAr, c1, c2, hw]; simp
            simp [hr, tm, eblk, l1, l2, l3, dblk, c2, c3, rcall47, s2, c4, e1, c5, resD, t0, p0]
end Go.Ae.R3
