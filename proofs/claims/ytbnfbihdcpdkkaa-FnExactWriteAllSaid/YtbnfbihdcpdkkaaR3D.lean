/- DiskOk, both; disks copied, both. -/
import Derived.Test.YtbnfbihdcpdkkaaR3C
namespace Go.Ae.R3
set_option linter.unusedSimpArgs false
set_option linter.unusedVariables false
@[simp] theorem heap_zero (ts : List AV) (l : Heap) (e : List Heap) : St.heap ⟨ts, l, e⟩ 0 = l := rfl
@[simp] theorem bears_nobox (v sz : Nat) (fl : Bool) (el : List (List AV)) : Blk.bears ⟨v, sz, false, fl, el⟩ = false := rfl
theorem rowsT_all (l : List ByteArray) : ((rowsT l).all fun r => r.length == 1) = true := by simp [rowsT]
theorem rowsP_all (l : List (Int × ByteArray)) : ((rowsP l).all fun r => r.length == 2) = true := by simp [rowsP]
theorem clone (k : Nat) (ss : List ByteArray) (ps : List (Int × ByteArray)) (h1 : ss.length ≤ 4000000) (h2 : ps.length ≤ 4000000) :
    call code (k + 2) 63 [.agg [.rd true (rowsT ss), .rd true (rowsP ps)]] [] = some ⟨.agg [.sl 0 0 0 [] 0 ss.length, .sl 0 1 0 [] 0 ps.length], [⟨0, 1, false, true, rowsT ss⟩, ⟨0, 2, false, true, rowsP ps⟩], []⟩ := by
  refine call_run rfl fn63 rfl ?_
  simp [F63, rcall66, cloneS _ _ h1, rcall72, cloneP _ _ h2]
theorem own (k : Nat) (ss : List ByteArray) (ps : List (Int × ByteArray)) (h1 : ss.length ≤ 100000) (h2 : ps.length ≤ 100000) :
    call code (k + 1) 48 [.agg [.rd true (rowsT ss), .rd true (rowsP ps)]] [] = some ⟨.agg [.sl 0 0 0 [] 0 ss.length, .sl 0 1 0 [] 0 ps.length], [⟨0, 1, false, true, rowsT ss⟩, ⟨0, 2, false, true, rowsP ps⟩], []⟩ := by
  refine call_run rfl fn48 rfl ?_
  have l1 := rowsT_len ss
  have l2 := rowsP_len ps
  have a1 := rowsT_all ss
  have a2 := rowsP_all ps
  simp [F48, l1, l2, evalW, source, a1, a2]
  omega
theorem l14Has (k : Nat) (at_ : Int) (ss : List ByteArray) (ps : List (Int × ByteArray)) (hn : ss.length ≤ 140737488351232) : call code (k + 2) 47 [.agg [.rd true (rowsT ss), .rd true (rowsP ps)], .int .i64 at_] [] = some ⟨.bool (inB at_ 0 ((ss.length : Int) - 1)), [], []⟩ := by
  refine call_run rfl fn47 rfl ?_
  have hrl := rowsT_len ss
  have e1 : IntKind.wrap .i64 ((ss.length : Int) - 1) = (ss.length : Int) - 1 := wrap64 ⟨by omega, by omega⟩
  simp [F47, hrl, rcall39, l00In, e1]
def dblk (ss : List ByteArray) (ps : List (Int × ByteArray)) : Blk := ⟨0, 2, true, false, [[.rd true (rowsT ss), .rd true (rowsP ps)]]⟩
theorem specDisk (k : Nat) (ss : List ByteArray) (ps : List (Int × ByteArray)) (h1 : ss.length ≤ 1048576) (h2 : ps.length ≤ 1048576) :
    call code (k + 2) 13 [.agg [.rd true (rowsT ss), .rd true (rowsP ps)]] [] = some ⟨.bool (diskB ss ps), [], []⟩ := by
  refine call_run rfl fn13 rfl ?_
  have l1 := rowsT_len ss
  have l2 := rowsP_len ps
  cases c1 : decide ((ss.length : Int) < 1)
  · cases c2 : decide ((1200 : Int) < ss.length)
    · cases c3 : decide ((600 : Int) < ps.length)
      · have b1 : inB ss.length 1 1200 = true := by have := of_decide_eq_false c1; have := of_decide_eq_false c2; simp [inB]; omega
        have b2 : decide ((ps.length : Int) ≤ 600) = true := by have := of_decide_eq_false c3; simp; omega
        have hres : diskB ss ps = (ss.all secB && ps.all (goodP ss.length)) := by simp [diskB, b1, b2]
        rw [hres]
        simp [F13, l1, l2, c1, c2, c3]
        refine RunC_loop (fun i : Nat => ⟨[.undef, .ptr 0 0 0 [] 0 0, .undef, .int .i64 ss.length, .int .i64 i] ++ List.replicate 57 .undef, [(0, some (dblk ss ps))], []⟩)
          (fun i => i ≤ ss.length ∧ ∀ j (h : j < ss.length), j < i → secB ss[j] = true) (fun i => ss.length - i) 0 ⟨Nat.zero_le _, by simp⟩ (by simp; omega) (by simp [dblk]) fun i hi _ => ?_
        obtain ⟨hi, hall⟩ := hi
        by_cases hlt : i < ss.length
        · have hg : ∀ h, (rowsT ss)[i]'h = [AV.str ss[i]] := fun h => rowsT_at hlt h
          have hs := idx_succ (i := i) hlt (by omega)
          cases hb : secB ss[i]
          · have hb' : ((ss[i].size : Int) != 64) = true := by simpa [secB] using hb
            have hf : ss.all secB = false := List.all_eq_false.2 ⟨ss[i], List.getElem_mem hlt, by simp [hb]⟩
            simp [hlt, l1, l2, hg, dblk, hb', hs, hf]
          · have hb' : ((ss[i].size : Int) != 64) = false := by simpa [secB] using hb
            simp [hlt, l1, l2, hg, dblk, hb', hs]
            exact ⟨i + 1, ⟨by omega, fun j h hj => by rcases Nat.lt_succ_iff_lt_or_eq.1 hj with h' | rfl; exact hall j h h'; exact hb⟩, by omega, by simp⟩
        · have : i = ss.length := by omega
          subst this
          have ha : ss.all secB = true := List.all_eq_true.2 fun x hx => by obtain ⟨j, hj, rfl⟩ := List.getElem_of_mem hx; exact hall j hj hj
          simp [l1, l2, dblk, ha]
          have e1 : IntKind.wrap .i64 ((ss.length : Int) - 1) = (ss.length : Int) - 1 := wrap64 ⟨by omega, by omega⟩
          refine RunC_loop (fun i : Nat => ⟨[.undef, .ptr 0 0 0 [] 0 0, .undef, .int .i64 ss.length, .undef, .int .i64 i] ++ List.replicate 56 .undef, [(0, some (dblk ss ps))], []⟩)
            (fun i => i ≤ ps.length ∧ ∀ j (h : j < ps.length), j < i → goodP ss.length ps[j] = true) (fun i => ps.length - i) 0 ⟨Nat.zero_le _, by simp⟩ (by simp; omega) (by simp [dblk]) fun i hi _ => ?_
          obtain ⟨hi, hall⟩ := hi
          by_cases hlt : i < ps.length
          · have hg : ∀ h, (rowsP ps)[i]'h = [AV.int .i64 ps[i].1, AV.str ps[i].2] := fun h => rowsP_at hlt h
            have hs := idx_succ (i := i) hlt (by omega)
            have hin := fun k => l00In k ps[i].1 0 ((ss.length : Int) - 1)
            cases hb0 : inB ps[i].1 0 ((ss.length : Int) - 1)
            · have hf : ps.all (goodP ss.length) = false := List.all_eq_false.2 ⟨ps[i], List.getElem_mem hlt, by simp [goodP, hb0]⟩
              simp [hlt, l1, l2, hg, dblk, hs, hf, rcall39, e1, hin, hb0]
            · cases hb : secB ps[i].2
              · have hb' : ((ps[i].2.size : Int) != 64) = true := by simpa [secB] using hb
                have hf : ps.all (goodP ss.length) = false := List.all_eq_false.2 ⟨ps[i], List.getElem_mem hlt, by simp [goodP, hb]⟩
                simp [hlt, l1, l2, hg, dblk, hs, hf, rcall39, e1, hin, hb0, hb']
              · have hb' : ((ps[i].2.size : Int) != 64) = false := by simpa [secB] using hb
                simp [hlt, l1, l2, hg, dblk, hs, rcall39, e1, hin, hb0, hb']
                exact ⟨i + 1, ⟨by omega, fun j h hj => by rcases Nat.lt_succ_iff_lt_or_eq.1 hj with h' | rfl; exact hall j h h'; simp [goodP, hb0, hb]⟩, by omega, by simp⟩
          · have : i = ps.length := by omega
            subst this
            have ha : ps.all (goodP ss.length) = true := List.all_eq_true.2 fun x hx => by obtain ⟨j, hj, rfl⟩ := List.getElem_of_mem hx; exact hall j hj hj
            simp [l1, l2, dblk, ha]
      · have hf : diskB ss ps = false := by have := of_decide_eq_true c3; simp [diskB]; omega
        simp [F13, l1, l2, c1, c2, c3, hf]
    · have hf : diskB ss ps = false := by have := of_decide_eq_true c2; simp [diskB, inB]; omega
      simp [F13, l1, l2, c1, c2, hf]
  · have hf : diskB ss ps = false := by have := of_decide_eq_true c1; simp [diskB, inB]; omega
    simp [F13, l1, l2, c1, hf]
theorem implDisk (k : Nat) (ss : List ByteArray) (ps : List (Int × ByteArray)) (h1 : ss.length ≤ 1048576) (h2 : ps.length ≤ 1048576) :
    call code (k + 6) 34 [.agg [.rd true (rowsT ss), .rd true (rowsP ps)]] [] = some ⟨.bool (diskB ss ps), [], []⟩ := by
  refine call_run rfl fn34 rfl ?_
  have l1 := rowsT_len ss
  have l2 := rowsP_len ps
  have hbt := fun k => between k ss.length 1 1200
  have hany := fun k => anyBadP k ss (.rd true (rowsP ps)) h1 ps h2
  cases c1 : inB ss.length 1 1200
  · simp [F34, l1, l2, rcall60, hbt, c1, diskB]
  · cases c3 : decide ((600 : Int) < ps.length)
    · have b2 : decide ((ps.length : Int) ≤ 600) = true := by have := of_decide_eq_false c3; simp; omega
      have hres : diskB ss ps = (ss.all secB && ps.all (goodP ss.length)) := by simp [diskB, c1, b2]
      rw [hres]
      simp [F34, l1, l2, rcall60, hbt, c1, c3]
      refine RunC_loop (fun i : Nat => ⟨[.undef, .ptr 0 0 0 [] 0 0] ++ List.replicate 15 .undef ++ [.rd true (rowsT ss), .int .i64 ss.length, .int .i64 i] ++ List.replicate 12 .undef, [(0, some (dblk ss ps))], []⟩)
        (fun i => i ≤ ss.length ∧ ∀ j (h : j < ss.length), j < i → secB ss[j] = true) (fun i => ss.length - i) 0 ⟨Nat.zero_le _, by simp⟩ (by simp; omega) (by simp [dblk]) fun i hi _ => ?_
      obtain ⟨hi, hall⟩ := hi
      by_cases hlt : i < ss.length
      · have hg : ∀ h, (rowsT ss)[i]'h = [AV.str ss[i]] := fun h => rowsT_at hlt h
        have hs := idx_succ (i := i) hlt (by omega)
        cases hb : secB ss[i]
        · have hf : ss.all secB = false := List.all_eq_false.2 ⟨ss[i], List.getElem_mem hlt, by simp [hb]⟩
          simp [hlt, l1, l2, hg, dblk, rcall41, sectorOk, hb, hs, hf]
        · simp [hlt, l1, l2, hg, dblk, rcall41, sectorOk, hb, hs]
          exact ⟨i + 1, ⟨by omega, fun j h hj => by rcases Nat.lt_succ_iff_lt_or_eq.1 hj with h' | rfl; exact hall j h h'; exact hb⟩, by omega, by simp⟩
      · have : i = ss.length := by omega
        subst this
        have ha : ss.all secB = true := List.all_eq_true.2 fun x hx => by obtain ⟨j, hj, rfl⟩ := List.getElem_of_mem hx; exact hall j hj hj
        simp [l1, l2, dblk, ha, rcall61, hany]
    · have hf : diskB ss ps = false := by have := of_decide_eq_true c3; simp [diskB]; omega
      simp [F34, l1, l2, rcall60, hbt, c1, c3, hf]
end Go.Ae.R3
