/- Rows of texts and of pending writes: copied, compared. -/
import Derived.Test.YtbnfbihdcpdkkaaR4Code
namespace Go.Ae.R4
set_option linter.unusedSimpArgs false
set_option linter.unusedVariables false
def rowsT (l : List ByteArray) : List (List AV) := l.map fun s => [AV.str s]
def rowsP (l : List (Int × ByteArray)) : List (List AV) := l.map fun p => [AV.int .i64 p.1, AV.str p.2]
theorem rowsT_len (l : List ByteArray) : (rowsT l).length = l.length := by simp [rowsT]
theorem rowsP_len (l : List (Int × ByteArray)) : (rowsP l).length = l.length := by simp [rowsP]
theorem rowsT_at {l : List ByteArray} {i : Nat} (h : i < l.length) (h' : i < (rowsT l).length) : (rowsT l)[i]'h' = [.str l[i]] := by simp [rowsT]
theorem rowsP_at {l : List (Int × ByteArray)} {i : Nat} (h : i < l.length) (h' : i < (rowsP l).length) : (rowsP l)[i]'h' = [.int .i64 l[i].1, .str l[i].2] := by simp [rowsP]
theorem rowsT_set (l : List ByteArray) (i : Nat) (x : ByteArray) : (rowsT l).set i [.str x] = rowsT (l.set i x) := by simp [rowsT]
theorem rowsP_set (l : List (Int × ByteArray)) (i : Nat) (x : Int) (y : ByteArray) : (rowsP l).set i [.int .i64 x, .str y] = rowsP (l.set i (x, y)) := by simp [rowsP]
/-- slices.Clone of rows that are only read. -/
theorem cloneS (k : Nat) (l : List ByteArray) (hn : l.length ≤ 4000000) : call code (k + 1) 66 [.rd true (rowsT l)] [] = some ⟨.sl 0 0 0 [] 0 l.length, [⟨0, 1, false, true, rowsT l⟩], []⟩ := by
  refine nil_run rfl fn66 rfl rfl ?_
  cases l with
  | nil => simp [F66, evalW, source, rowsT]
  | cons s l =>
    simp at hn
    simp [F66, evalW, source, rowsT]
    exact ⟨by omega, by omega⟩
theorem cloneP (k : Nat) (l : List (Int × ByteArray)) (hn : l.length ≤ 4000000) : call code (k + 1) 72 [.rd true (rowsP l)] [] = some ⟨.sl 0 0 0 [] 0 l.length, [⟨0, 2, false, true, rowsP l⟩], []⟩ := by
  refine nil_run rfl fn72 rfl rfl ?_
  cases l with
  | nil => simp [F72, evalW, source, rowsP]
  | cons s l =>
    simp at hn
    simp [F72, evalW, source, rowsP]
    exact ⟨by omega, by omega⟩
theorem idx_succ {i n : Nat} (h : i < n) (hn : n ≤ 4000000) : IntKind.wrap .i64 ((i : Int) + 1) = ((i + 1 : Nat) : Int) := by rw [wrap64 ⟨by omega, by omega⟩]; omega
def cpyT (ws : List ByteArray) (i : Nat) : List ByteArray := ws.take i ++ List.replicate (ws.length - i) ByteArray.empty
theorem cpyT_len {ws : List ByteArray} {i : Nat} (h : i ≤ ws.length) : (cpyT ws i).length = ws.length := by simp [cpyT]; omega
theorem cpyT_set {ws : List ByteArray} {i : Nat} (h : i < ws.length) : (cpyT ws i).set i ws[i] = cpyT ws (i + 1) := by
  unfold cpyT
  have hl : (ws.take i).length = i := by simp; omega
  rw [List.set_append_right i _ (by omega), hl, Nat.sub_self]
  obtain ⟨m, hm⟩ : ∃ m, ws.length - i = m + 1 := ⟨ws.length - i - 1, by omega⟩
  rw [hm, show ws.length - (i + 1) = m by omega, List.replicate_succ, List.set_cons_zero, List.take_succ_eq_append_getElem h]
  simp only [List.append_assoc, List.singleton_append]
def cpyP (ws : List (Int × ByteArray)) (i : Nat) : List (Int × ByteArray) := ws.take i ++ List.replicate (ws.length - i) (0, ByteArray.empty)
theorem cpyP_len {ws : List (Int × ByteArray)} {i : Nat} (h : i ≤ ws.length) : (cpyP ws i).length = ws.length := by simp [cpyP]; omega
theorem cpyP_set {ws : List (Int × ByteArray)} {i : Nat} (h : i < ws.length) : (cpyP ws i).set i ws[i] = cpyP ws (i + 1) := by
  unfold cpyP
  have hl : (ws.take i).length = i := by simp; omega
  rw [List.set_append_right i _ (by omega), hl, Nat.sub_self]
  obtain ⟨m, hm⟩ : ∃ m, ws.length - i = m + 1 := ⟨ws.length - i - 1, by omega⟩
  rw [hm, show ws.length - (i + 1) = m by omega, List.replicate_succ, List.set_cons_zero, List.take_succ_eq_append_getElem h]
  simp only [List.append_assoc, List.singleton_append]
end Go.Ae.R4
namespace Go.Ae.R4
set_option linter.unusedSimpArgs false
set_option linter.unusedVariables false
@[simp] theorem evalW_callv (O : Oracle) (md : Nat → Mode) (st : St) (base : Nat) (x : X) (args : List X) (fl : Bool) : evalW O md st base (.callv x args fl) = match evalX st x with
    | .fn f caps => match md f with
      | .val => match callVal O st base f (evalXs st args ++ caps) fl with
        | some (v, n) => match addNews st n with
          | some st' => some (v, st')
          | none => none
        | none => none
      | .view => match callView O st f (evalXs st args ++ caps) with
        | some v => some (v, st)
        | none => none
      | .ref => callRef O st base f (evalXs st args ++ caps) fl
    | _ => none := rfl
theorem md56 : code.md 56 = .val := rfl
theorem md62 : code.md 62 = .val := rfl
def inB (a b c : Int) : Bool := decide (b ≤ a) && decide (a ≤ c)
theorem between (k : Nat) (a b c : Int) : call code (k + 1) 60 [.int .i64 a, .int .i64 b, .int .i64 c] [] = some ⟨.bool (inB a b c), [], []⟩ := by
  refine call_run rfl fn60 rfl ?_
  simp [F60]
  repeat' ((first | apply RunG_ncase | apply RunB_ncase | apply RunG_case | apply RunB_case | apply RunP_case) <;> intro h <;> simp [h])
  all_goals (simp_all [inB] <;> omega)
theorem l00In (k : Nat) (a b c : Int) : call code (k + 1) 39 [.int .i64 a, .int .i64 b, .int .i64 c] [] = some ⟨.bool (inB a b c), [], []⟩ := by
  refine call_run rfl fn39 rfl ?_
  simp [F39]
  repeat' ((first | apply RunG_ncase | apply RunB_ncase | apply RunG_case | apply RunB_case | apply RunP_case) <;> intro h <;> simp [h])
  all_goals (simp_all [inB] <;> omega)
def secB (s : ByteArray) : Bool := ((s.size : Int) == 64)
def goodP (n : Nat) (p : Int × ByteArray) : Bool := inB p.1 0 ((n : Int) - 1) && secB p.2
def diskB (ss : List ByteArray) (ps : List (Int × ByteArray)) : Bool := inB ss.length 1 1200 && decide ((ps.length : Int) ≤ 600) && ss.all secB && ps.all (goodP ss.length)
theorem sectorOk (k : Nat) (s : ByteArray) : call code (k + 1) 41 [.str s] [] = some ⟨.bool (secB s), [], []⟩ := by
  refine call_run rfl fn41 rfl ?_
  simp [F41, secB]
theorem isIndex (k : Nat) (a : Int) (n : Nat) (hn : n ≤ 140737488351232) : call code (k + 2) 42 [.int .i64 a, .int .i64 n] [] = some ⟨.bool (inB a 0 ((n : Int) - 1)), [], []⟩ := by
  refine call_run rfl fn42 rfl ?_
  have e1 : IntKind.wrap .i64 ((n : Int) - 1) = (n : Int) - 1 := wrap64 ⟨by omega, by omega⟩
  simp [F42, rcall60, between, e1]
theorem badPending (k : Nat) (a : Int) (s : ByteArray) (ss : List ByteArray) (v : AV) (hn : ss.length ≤ 140737488351232) :
    call code (k + 3) 62 [.agg [.int .i64 a, .str s], .rptr [.rd true (rowsT ss), v]] [] = some ⟨.bool (!goodP ss.length (a, s)), [], []⟩ := by
  refine call_run rfl fn62 rfl ?_
  have hrl := rowsT_len ss
  have hi := fun k => isIndex k a ss.length hn
  cases h1 : inB a 0 ((ss.length : Int) - 1)
  · simp [F62, hrl, rcall42, hi, h1, goodP]
  · simp [F62, hrl, rcall42, hi, h1, goodP, rcall41, sectorOk]
theorem firstBad {α : Type} {p : α → Bool} {ws : List α} (ha : ws.all p = false) : ∃ (i : Nat) (h : i < ws.length), p ws[i] = false ∧ ∀ j (hj : j < i), p (ws[j]'(by omega)) = true := by
  have hex : ∃ i, ∃ h : i < ws.length, p ws[i] = false := by
    rw [List.all_eq_false] at ha
    obtain ⟨x, hx, hb⟩ := ha
    obtain ⟨i, hi, rfl⟩ := List.getElem_of_mem hx
    exact ⟨i, hi, by simpa using hb⟩
  obtain ⟨n, ⟨h1, h2⟩, h3⟩ := least hex
  refine ⟨n, h1, h2, fun j hj => ?_⟩
  cases hb : p (ws[j]'(by omega)) with
  | true => rfl
  | false => exact absurd (h3 j ⟨by omega, hb⟩) (by omega)
theorem indexBadP (k : Nat) (ss : List ByteArray) (v : AV) (hs : ss.length ≤ 1048576) (ws : List (Int × ByteArray)) (hn : ws.length ≤ 1048576) : ∃ r : Int, call code (k + 4) 71 [.rd true (rowsP ws), .fn 62 [.rptr [.rd true (rowsT ss), v]]] [] = some ⟨.int .i64 r, [], []⟩ ∧ decide (0 ≤ r) = !(ws.all (goodP ss.length)) := by
  have hrl := rowsP_len ws
  have hbp := fun k a s => badPending k a s ss v (by omega)
  cases ha : ws.all (goodP ss.length)
  · obtain ⟨i0, hi0, hbad, hmin⟩ := firstBad ha
    refine ⟨i0, call_run rfl fn71 rfl ?_, by simp⟩
    simp [F71, hrl]
    refine RunC_loop (fun i : Nat => ⟨[.rd true (rowsP ws), .fn 62 [.rptr [.rd true (rowsT ss), v]], .undef, .undef, .undef, .undef, .undef, .int .i64 ws.length, .int .i64 i] ++ List.replicate 10 .undef, [], []⟩)
      (fun i => i ≤ i0) (fun i => ws.length - i) 0 (Nat.zero_le _) (by simp; omega) (by simp) fun i hi _ => ?_
    have hlt : i < ws.length := by omega
    have hg : ∀ h, (rowsP ws)[i]'h = [AV.int .i64 ws[i].1, AV.str ws[i].2] := fun h => rowsP_at hlt h
    have hs := idx_succ (i := i) hlt (by omega)
    by_cases hii : i = i0
    · subst hii
      simp [hlt, hrl, hg, md62, hbp, hbad]
    · have hgood := hmin i (by omega)
      simp [hlt, hrl, hg, md62, hbp, hgood, hs]
      exact ⟨i + 1, by omega, by omega, by simp⟩
  · refine ⟨-1, call_run rfl fn71 rfl ?_, by simp⟩
    simp [F71, hrl]
    refine RunC_loop (fun i : Nat => ⟨[.rd true (rowsP ws), .fn 62 [.rptr [.rd true (rowsT ss), v]], .undef, .undef, .undef, .undef, .undef, .int .i64 ws.length, .int .i64 i] ++ List.replicate 10 .undef, [], []⟩)
      (fun i => i ≤ ws.length) (fun i => ws.length - i) 0 (Nat.zero_le _) (by simp; omega) (by simp) fun i hi _ => ?_
    by_cases hlt : i < ws.length
    · have hg : ∀ h, (rowsP ws)[i]'h = [AV.int .i64 ws[i].1, AV.str ws[i].2] := fun h => rowsP_at hlt h
      have hs := idx_succ (i := i) hlt (by omega)
      have hgood : goodP ss.length ws[i] = true := List.all_eq_true.1 ha _ (List.getElem_mem hlt)
      simp [hlt, hrl, hg, md62, hbp, hgood, hs]
      exact ⟨i + 1, by omega, by omega, by simp⟩
    · have : i = ws.length := by omega
      subst this
      simp
theorem anyBadP (k : Nat) (ss : List ByteArray) (v : AV) (hs : ss.length ≤ 1048576) (ws : List (Int × ByteArray)) (hn : ws.length ≤ 1048576) : call code (k + 5) 61 [.rd true (rowsP ws), .fn 62 [.rptr [.rd true (rowsT ss), v]]] [] = some ⟨.bool (!(ws.all (goodP ss.length))), [], []⟩ := by
  refine call_run rfl fn61 rfl ?_
  obtain ⟨r, h1, h2⟩ := indexBadP k ss v hs ws hn
  simp [F61, rcall71, h1, h2]
end Go.Ae.R4
namespace Go.Ae.R4
set_option linter.unusedSimpArgs false
set_option linter.unusedVariables false
@[simp] theorem heap_zero (ts : List AV) (l : Heap) (e : List Heap) : St.heap ⟨ts, l, e⟩ 0 = l := rfl
@[simp] theorem bears_nobox (v sz : Nat) (fl : Bool) (el : List (List AV)) : Blk.bears ⟨v, sz, false, fl, el⟩ = false := rfl
theorem rowsT_all (l : List ByteArray) : ((rowsT l).all fun r => r.length == 1) = true := by simp [rowsT]
theorem rowsP_all (l : List (Int × ByteArray)) : ((rowsP l).all fun r => r.length == 2) = true := by simp [rowsP]
theorem clone (k : Nat) (ss : List ByteArray) (ps : List (Int × ByteArray)) (h1 : ss.length ≤ 4000000) (h2 : ps.length ≤ 4000000) :
    call code (k + 2) 63 [.agg [.rd true (rowsT ss), .rd true (rowsP ps)]] [] = some ⟨.agg [.sl 0 0 0 [] 0 ss.length, .sl 0 1 0 [] 0 ps.length], [⟨0, 1, false, true, rowsT ss⟩, ⟨0, 2, false, true, rowsP ps⟩], []⟩ := by
  refine call_run rfl fn63 rfl ?_
  simp [F63, rcall66, cloneS _ _ h1, rcall72, cloneP _ _ h2]
def dblk (ss : List ByteArray) (ps : List (Int × ByteArray)) : Blk := ⟨0, 2, true, false, [[.rd true (rowsT ss), .rd true (rowsP ps)]]⟩
theorem specDisk (k : Nat) (ss : List ByteArray) (ps : List (Int × ByteArray)) (h1 : ss.length ≤ 1048576) (h2 : ps.length ≤ 1048576) :
    call code (k + 2) 13 [.agg [.rd true (rowsT ss), .rd true (rowsP ps)]] [] = some ⟨.bool (diskB ss ps), [], []⟩ := by
  refine call_run rfl fn13 rfl ?_
  have l1 := rowsT_len ss
  have l2 := rowsP_len ps
  cases c1 : decide ((ss.length : Int) < 1)
  · cases c2 : decide ((1200 : Int) < ss.length)
    · cases c3 : decide ((600 : Int) < ps.length)
      · have b1 : inB ss.length 1 1200 = true := by have := of_decide_eq_false c1; have := of_decide_eq_false c2; simp [inB]; omega
        have b2 : decide ((ps.length : Int) ≤ 600) = true := by have := of_decide_eq_false c3; simp; omega
        have hres : diskB ss ps = (ss.all secB && ps.all (goodP ss.length)) := by simp [diskB, b1, b2]
        rw [hres]
        simp [F13, l1, l2, c1, c2, c3]
        refine RunC_loop (fun i : Nat => ⟨[.undef, .ptr 0 0 0 [] 0 0, .undef, .int .i64 ss.length, .int .i64 i] ++ List.replicate 57 .undef, [(0, some (dblk ss ps))], []⟩)
          (fun i => i ≤ ss.length ∧ ∀ j (h : j < ss.length), j < i → secB ss[j] = true) (fun i => ss.length - i) 0 ⟨Nat.zero_le _, by simp⟩ (by simp; omega) (by simp [dblk]) fun i hi _ => ?_
        obtain ⟨hi, hall⟩ := hi
        by_cases hlt : i < ss.length
        · have hg : ∀ h, (rowsT ss)[i]'h = [AV.str ss[i]] := fun h => rowsT_at hlt h
          have hs := idx_succ (i := i) hlt (by omega)
          cases hb : secB ss[i]
          · have hb' : ((ss[i].size : Int) != 64) = true := by simpa [secB] using hb
            have hf : ss.all secB = false := List.all_eq_false.2 ⟨ss[i], List.getElem_mem hlt, by simp [hb]⟩
            simp [hlt, l1, l2, hg, dblk, hb', hs, hf]
          · have hb' : ((ss[i].size : Int) != 64) = false := by simpa [secB] using hb
            simp [hlt, l1, l2, hg, dblk, hb', hs]
            exact ⟨i + 1, ⟨by omega, fun j h hj => by rcases Nat.lt_succ_iff_lt_or_eq.1 hj with h' | rfl; exact hall j h h'; exact hb⟩, by omega, by simp⟩
        · have : i = ss.length := by omega
          subst this
          have ha : ss.all secB = true := List.all_eq_true.2 fun x hx => by obtain ⟨j, hj, rfl⟩ := List.getElem_of_mem hx; exact hall j hj hj
          simp [l1, l2, dblk, ha]
          have e1 : IntKind.wrap .i64 ((ss.length : Int) - 1) = (ss.length : Int) - 1 := wrap64 ⟨by omega, by omega⟩
          refine RunC_loop (fun i : Nat => ⟨[.undef, .ptr 0 0 0 [] 0 0, .undef, .int .i64 ss.length, .undef, .int .i64 i] ++ List.replicate 56 .undef, [(0, some (dblk ss ps))], []⟩)
            (fun i => i ≤ ps.length ∧ ∀ j (h : j < ps.length), j < i → goodP ss.length ps[j] = true) (fun i => ps.length - i) 0 ⟨Nat.zero_le _, by simp⟩ (by simp; omega) (by simp [dblk]) fun i hi _ => ?_
          obtain ⟨hi, hall⟩ := hi
          by_cases hlt : i < ps.length
          · have hg : ∀ h, (rowsP ps)[i]'h = [AV.int .i64 ps[i].1, AV.str ps[i].2] := fun h => rowsP_at hlt h
            have hs := idx_succ (i := i) hlt (by omega)
            have hin := fun k => l00In k ps[i].1 0 ((ss.length : Int) - 1)
            cases hb0 : inB ps[i].1 0 ((ss.length : Int) - 1)
            · have hf : ps.all (goodP ss.length) = false := List.all_eq_false.2 ⟨ps[i], List.getElem_mem hlt, by simp [goodP, hb0]⟩
              simp [hlt, l1, l2, hg, dblk, hs, hf, rcall39, e1, hin, hb0]
            · cases hb : secB ps[i].2
              · have hb' : ((ps[i].2.size : Int) != 64) = true := by simpa [secB] using hb
                have hf : ps.all (goodP ss.length) = false := List.all_eq_false.2 ⟨ps[i], List.getElem_mem hlt, by simp [goodP, hb]⟩
                simp [hlt, l1, l2, hg, dblk, hs, hf, rcall39, e1, hin, hb0, hb']
              · have hb' : ((ps[i].2.size : Int) != 64) = false := by simpa [secB] using hb
                simp [hlt, l1, l2, hg, dblk, hs, rcall39, e1, hin, hb0, hb']
                exact ⟨i + 1, ⟨by omega, fun j h hj => by rcases Nat.lt_succ_iff_lt_or_eq.1 hj with h' | rfl; exact hall j h h'; simp [goodP, hb0, hb]⟩, by omega, by simp⟩
          · have : i = ps.length := by omega
            subst this
            have ha : ps.all (goodP ss.length) = true := List.all_eq_true.2 fun x hx => by obtain ⟨j, hj, rfl⟩ := List.getElem_of_mem hx; exact hall j hj hj
            simp [l1, l2, dblk, ha]
      · have hf : diskB ss ps = false := by have := of_decide_eq_true c3; simp [diskB]; omega
        simp [F13, l1, l2, c1, c2, c3, hf]
    · have hf : diskB ss ps = false := by have := of_decide_eq_true c2; simp [diskB, inB]; omega
      simp [F13, l1, l2, c1, c2, hf]
  · have hf : diskB ss ps = false := by have := of_decide_eq_true c1; simp [diskB, inB]; omega
    simp [F13, l1, l2, c1, hf]
theorem implDisk (k : Nat) (ss : List ByteArray) (ps : List (Int × ByteArray)) (h1 : ss.length ≤ 1048576) (h2 : ps.length ≤ 1048576) :
    call code (k + 6) 34 [.agg [.rd true (rowsT ss), .rd true (rowsP ps)]] [] = some ⟨.bool (diskB ss ps), [], []⟩ := by
  refine call_run rfl fn34 rfl ?_
  have l1 := rowsT_len ss
  have l2 := rowsP_len ps
  have hbt := fun k => between k ss.length 1 1200
  have hany := fun k => anyBadP k ss (.rd true (rowsP ps)) h1 ps h2
  cases c1 : inB ss.length 1 1200
  · simp [F34, l1, l2, rcall60, hbt, c1, diskB]
  · cases c3 : decide ((600 : Int) < ps.length)
    · have b2 : decide ((ps.length : Int) ≤ 600) = true := by have := of_decide_eq_false c3; simp; omega
      have hres : diskB ss ps = (ss.all secB && ps.all (goodP ss.length)) := by simp [diskB, c1, b2]
      rw [hres]
      simp [F34, l1, l2, rcall60, hbt, c1, c3]
      refine RunC_loop (fun i : Nat => ⟨[.undef, .ptr 0 0 0 [] 0 0] ++ List.replicate 15 .undef ++ [.rd true (rowsT ss), .int .i64 ss.length, .int .i64 i] ++ List.replicate 12 .undef, [(0, some (dblk ss ps))], []⟩)
        (fun i => i ≤ ss.length ∧ ∀ j (h : j < ss.length), j < i → secB ss[j] = true) (fun i => ss.length - i) 0 ⟨Nat.zero_le _, by simp⟩ (by simp; omega) (by simp [dblk]) fun i hi _ => ?_
      obtain ⟨hi, hall⟩ := hi
      by_cases hlt : i < ss.length
      · have hg : ∀ h, (rowsT ss)[i]'h = [AV.str ss[i]] := fun h => rowsT_at hlt h
        have hs := idx_succ (i := i) hlt (by omega)
        cases hb : secB ss[i]
        · have hf : ss.all secB = false := List.all_eq_false.2 ⟨ss[i], List.getElem_mem hlt, by simp [hb]⟩
          simp [hlt, l1, l2, hg, dblk, rcall41, sectorOk, hb, hs, hf]
        · simp [hlt, l1, l2, hg, dblk, rcall41, sectorOk, hb, hs]
          exact ⟨i + 1, ⟨by omega, fun j h hj => by rcases Nat.lt_succ_iff_lt_or_eq.1 hj with h' | rfl; exact hall j h h'; exact hb⟩, by omega, by simp⟩
      · have : i = ss.length := by omega
        subst this
        have ha : ss.all secB = true := List.all_eq_true.2 fun x hx => by obtain ⟨j, hj, rfl⟩ := List.getElem_of_mem hx; exact hall j hj hj
        simp [l1, l2, dblk, ha, rcall61, hany]
    · have hf : diskB ss ps = false := by have := of_decide_eq_true c3; simp [diskB]; omega
      simp [F34, l1, l2, rcall60, hbt, c1, c3, hf]
end Go.Ae.R4
namespace Go.Ae.R4
set_option linter.unusedSimpArgs false
set_option linter.unusedVariables false
def wrs : Int → List ByteArray → List (Int × ByteArray)
  | _, [] => []
  | a, s :: r => (a, s) :: wrs (a + 1) r
theorem wrs_len : ∀ (a : Int) (l : List ByteArray), (wrs a l).length = l.length
  | _, [] => rfl
  | a, s :: r => by simp [wrs, wrs_len (a + 1) r]
theorem wrs_snoc : ∀ (a : Int) (l : List ByteArray) (s : ByteArray), wrs a (l ++ [s]) = wrs a l ++ [(a + l.length, s)]
  | a, [], s => by simp [wrs]
  | a, t :: r, s => by
    simp only [List.cons_append, wrs, wrs_snoc (a + 1) r s, List.length_cons]
    congr 3
    simp
    omega
theorem wrs_take {a : Int} {l : List ByteArray} {i : Nat} (h : i < l.length) : wrs a (l.take (i + 1)) = wrs a (l.take i) ++ [(a + i, l[i])] := by
  rw [List.take_succ_eq_append_getElem h, wrs_snoc]
  congr 3
  simp; omega
theorem rowsP_app (a b : List (Int × ByteArray)) : rowsP (a ++ b) = rowsP a ++ rowsP b := by simp [rowsP]
theorem writing (k : Nat) (ss : List ByteArray) (ps : List (Int × ByteArray)) (a : Int) (l : List ByteArray) (h1 : ss.length ≤ 100000) (h2 : ps.length ≤ 100000) (h3 : l.length ≤ 100000) (ha : -1000000 ≤ a ∧ a ≤ 1000000) :
    call code (k + 3) 43 [.agg [.rd true (rowsT ss), .rd true (rowsP ps)], .int .i64 a, .rd true (rowsT l)] [] = some ⟨.agg [.sl 0 0 0 [] 0 ss.length, .sl 0 1 0 [] 0 (ps.length + l.length)], [⟨0, 1, false, true, rowsT ss⟩, ⟨0, 2, false, true, rowsP (ps ++ wrs a l)⟩], []⟩ := by
  refine call_run rfl fn43 rfl ?_
  have l1 := rowsT_len ss
  have l2 := rowsP_len ps
  have l3 := rowsT_len l
  have hc := fun k => clone k ss ps (by omega) (by omega)
  simp [F43, l1, l2, l3, rcall63, hc]
  refine RunC_loop (fun i : Nat => ⟨[.undef, .int .i64 a, .undef, .undef, .undef, .undef, .ptr 0 256 0 [] 0 0, .ptr 0 66048 0 [] 0 0, .undef, .undef, .undef, .undef, .rd true (rowsT l), .int .i64 l.length, .int .i64 i] ++ List.replicate 16 .undef,
      [(0, some (dblk ss ps)), (256, some ⟨0, 2, true, false, [[.sl 0 257 0 [] 0 0, .sl 0 258 0 [] 0 0]]⟩), (257, some ⟨0, 1, false, true, []⟩), (258, some ⟨0, 2, false, true, []⟩), (65792, some ⟨0, 1, false, true, rowsT ss⟩),
        (65793, some ⟨0, 2, false, true, rowsP (ps ++ wrs a (l.take i))⟩), (66048, some ⟨0, 2, true, false, [[.sl 0 65792 0 [] 0 ss.length, .sl 0 65793 0 [] 0 (ps.length + i)]]⟩), (66049, some ⟨0, 1, false, true, []⟩), (66050, some ⟨0, 2, false, true, []⟩)], []⟩)
    (fun i => i ≤ l.length) (fun i => l.length - i) 0 (Nat.zero_le _) (by simp; omega) (by simp [dblk, wrs]) fun i hi _ => ?_
  have hrl := rowsP_len (ps ++ wrs a (l.take i))
  rw [List.length_append, wrs_len, List.length_take, Nat.min_eq_left hi] at hrl
  by_cases hlt : i < l.length
  · have hg : ∀ h, (rowsT l)[i]'h = [AV.str l[i]] := fun h => rowsT_at hlt h
    have hs := idx_succ (i := i) hlt (by omega)
    have e1 : IntKind.wrap .i64 (a + (i : Int)) = a + i := wrap64 ⟨by omega, by omega⟩
    have hw : rowsP (ps ++ wrs a (l.take (i + 1))) = rowsP (ps ++ wrs a (l.take i)) ++ [[.int .i64 (a + i), .str l[i]]] := by rw [wrs_take hlt, ← List.append_assoc, rowsP_app]; rfl
    simp [hlt, hrl, l3, hg, hs, e1, dblk, evalW, source]
    exact ⟨⟨by omega, by omega⟩, i + 1, by omega, by omega, by simp, by simp [hw]; omega⟩
  · have : i = l.length := by omega
    subst this
    simp [hrl, l1, dblk]
end Go.Ae.R4
