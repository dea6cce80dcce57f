/- Disks looked at: the program's DiskOk and the reference's. -/
import Derived.Test.YtbnfbihdcpdkkaaR3B
namespace Go.Ae.R3
set_option linter.unusedSimpArgs false
set_option linter.unusedVariables false
@[simp] theorem evalW_callv (O : Oracle) (md : Nat → Mode) (st : St) (base : Nat) (x : X) (args : List X) (fl : Bool) : evalW O md st base (.callv x args fl) = match evalX st x with
    | .fn f caps => match md f with
      | .val => match callVal O st base f (evalXs st args ++ caps) fl with
        | some (v, n) => match addNews st n with
          | some st' => some (v, st')
          | none => none
        | none => none
      | .view => match callView O st f (evalXs st args ++ caps) with
        | some v => some (v, st)
        | none => none
      | .ref => callRef O st base f (evalXs st args ++ caps) fl
    | _ => none := rfl
theorem md56 : code.md 56 = .val := rfl
theorem md62 : code.md 62 = .val := rfl
def inB (a b c : Int) : Bool := decide (b ≤ a) && decide (a ≤ c)
theorem between (k : Nat) (a b c : Int) : call code (k + 1) 60 [.int .i64 a, .int .i64 b, .int .i64 c] [] = some ⟨.bool (inB a b c), [], []⟩ := by
  refine call_run rfl fn60 rfl ?_
  simp [F60]
  repeat' ((first | apply RunG_ncase | apply RunB_ncase | apply RunG_case | apply RunB_case | apply RunP_case) <;> intro h <;> simp [h])
  all_goals (simp_all [inB] <;> omega)
theorem l00In (k : Nat) (a b c : Int) : call code (k + 1) 39 [.int .i64 a, .int .i64 b, .int .i64 c] [] = some ⟨.bool (inB a b c), [], []⟩ := by
  refine call_run rfl fn39 rfl ?_
  simp [F39]
  repeat' ((first | apply RunG_ncase | apply RunB_ncase | apply RunG_case | apply RunB_case | apply RunP_case) <;> intro h <;> simp [h])
  all_goals (simp_all [inB] <;> omega)
def secB (s : ByteArray) : Bool := ((s.size : Int) == 64)
def goodP (n : Nat) (p : Int × ByteArray) : Bool := inB p.1 0 ((n : Int) - 1) && secB p.2
def diskB (ss : List ByteArray) (ps : List (Int × ByteArray)) : Bool := inB ss.length 1 1200 && decide ((ps.length : Int) ≤ 600) && ss.all secB && ps.all (goodP ss.length)
theorem sectorOk (k : Nat) (s : ByteArray) : call code (k + 1) 41 [.str s] [] = some ⟨.bool (secB s), [], []⟩ := by
  refine call_run rfl fn41 rfl ?_
  simp [F41, secB]
theorem notSector (k : Nat) (s : ByteArray) : call code (k + 2) 56 [.str s] [] = some ⟨.bool (!secB s), [], []⟩ := by
  refine call_run rfl fn56 rfl ?_
  simp [F56, rcall41, sectorOk]
theorem isIndex (k : Nat) (a : Int) (n : Nat) (hn : n ≤ 140737488351232) : call code (k + 2) 42 [.int .i64 a, .int .i64 n] [] = some ⟨.bool (inB a 0 ((n : Int) - 1)), [], []⟩ := by
  refine call_run rfl fn42 rfl ?_
  have e1 : IntKind.wrap .i64 ((n : Int) - 1) = (n : Int) - 1 := wrap64 ⟨by omega, by omega⟩
  simp [F42, rcall60, between, e1]
theorem badPending (k : Nat) (a : Int) (s : ByteArray) (ss : List ByteArray) (v : AV) (hn : ss.length ≤ 140737488351232) :
    call code (k + 3) 62 [.agg [.int .i64 a, .str s], .rptr [.rd true (rowsT ss), v]] [] = some ⟨.bool (!goodP ss.length (a, s)), [], []⟩ := by
  refine call_run rfl fn62 rfl ?_
  have hrl := rowsT_len ss
  have hi := fun k => isIndex k a ss.length hn
  cases h1 : inB a 0 ((ss.length : Int) - 1)
  · simp [F62, hrl, rcall42, hi, h1, goodP]
  · simp [F62, hrl, rcall42, hi, h1, goodP, rcall41, sectorOk]
theorem firstBad {α : Type} {p : α → Bool} {ws : List α} (ha : ws.all p = false) : ∃ (i : Nat) (h : i < ws.length), p ws[i] = false ∧ ∀ j (hj : j < i), p (ws[j]'(by omega)) = true := by
  have hex : ∃ i, ∃ h : i < ws.length, p ws[i] = false := by
    rw [List.all_eq_false] at ha
    obtain ⟨x, hx, hb⟩ := ha
    obtain ⟨i, hi, rfl⟩ := List.getElem_of_mem hx
    exact ⟨i, hi, by simpa using hb⟩
  obtain ⟨n, ⟨h1, h2⟩, h3⟩ := least hex
  refine ⟨n, h1, h2, fun j hj => ?_⟩
  cases hb : p (ws[j]'(by omega)) with
  | true => rfl
  | false => exact absurd (h3 j ⟨by omega, hb⟩) (by omega)
theorem indexBadS (k : Nat) (ws : List ByteArray) (hn : ws.length ≤ 1048576) : ∃ r : Int, call code (k + 4) 70 [.rd true (rowsT ws), .fn 56 []] [] = some ⟨.int .i64 r, [], []⟩ ∧ decide (0 ≤ r) = !(ws.all secB) := by
  have hrl := rowsT_len ws
  cases ha : ws.all secB
  · obtain ⟨i0, hi0, hbad, hmin⟩ := firstBad ha
    refine ⟨i0, call_run rfl fn70 rfl ?_, by simp⟩
    simp [F70, hrl]
    refine RunC_loop (fun i : Nat => ⟨[.rd true (rowsT ws), .fn 56 [], .undef, .undef, .undef, .undef, .undef, .int .i64 ws.length, .int .i64 i] ++ List.replicate 10 .undef, [], []⟩)
      (fun i => i ≤ i0) (fun i => ws.length - i) 0 (Nat.zero_le _) (by simp; omega) (by simp) fun i hi _ => ?_
    have hlt : i < ws.length := by omega
    have hg : ∀ h, (rowsT ws)[i]'h = [AV.str ws[i]] := fun h => rowsT_at hlt h
    have hs := idx_succ (i := i) hlt (by omega)
    by_cases hii : i = i0
    · subst hii
      simp [hlt, hrl, hg, md56, notSector, hbad]
    · have hgood := hmin i (by omega)
      simp [hlt, hrl, hg, md56, notSector, hgood, hs]
      exact ⟨i + 1, by omega, by omega, by simp⟩
  · refine ⟨-1, call_run rfl fn70 rfl ?_, by simp⟩
    simp [F70, hrl]
    refine RunC_loop (fun i : Nat => ⟨[.rd true (rowsT ws), .fn 56 [], .undef, .undef, .undef, .undef, .undef, .int .i64 ws.length, .int .i64 i] ++ List.replicate 10 .undef, [], []⟩)
      (fun i => i ≤ ws.length) (fun i => ws.length - i) 0 (Nat.zero_le _) (by simp; omega) (by simp) fun i hi _ => ?_
    by_cases hlt : i < ws.length
    · have hg : ∀ h, (rowsT ws)[i]'h = [AV.str ws[i]] := fun h => rowsT_at hlt h
      have hs := idx_succ (i := i) hlt (by omega)
      have hgood : secB ws[i] = true := List.all_eq_true.1 ha _ (List.getElem_mem hlt)
      simp [hlt, hrl, hg, md56, notSector, hgood, hs]
      exact ⟨i + 1, by omega, by omega, by simp⟩
    · have : i = ws.length := by omega
      subst this
      simp
theorem anyBadS (k : Nat) (ws : List ByteArray) (hn : ws.length ≤ 1048576) : call code (k + 5) 55 [.rd true (rowsT ws), .fn 56 []] [] = some ⟨.bool (!(ws.all secB)), [], []⟩ := by
  refine call_run rfl fn55 rfl ?_
  obtain ⟨r, h1, h2⟩ := indexBadS k ws hn
  simp [F55, rcall70, h1, h2]
theorem indexBadP (k : Nat) (ss : List ByteArray) (v : AV) (hs : ss.length ≤ 1048576) (ws : List (Int × ByteArray)) (hn : ws.length ≤ 1048576) : ∃ r : Int, call code (k + 4) 71 [.rd true (rowsP ws), .fn 62 [.rptr [.rd true (rowsT ss), v]]] [] = some ⟨.int .i64 r, [], []⟩ ∧ decide (0 ≤ r) = !(ws.all (goodP ss.length)) := by
  have hrl := rowsP_len ws
  have hbp := fun k a s => badPending k a s ss v (by omega)
  cases ha : ws.all (goodP ss.length)
  · obtain ⟨i0, hi0, hbad, hmin⟩ := firstBad ha
    refine ⟨i0, call_run rfl fn71 rfl ?_, by simp⟩
    simp [F71, hrl]
    refine RunC_loop (fun i : Nat => ⟨[.rd true (rowsP ws), .fn 62 [.rptr [.rd true (rowsT ss), v]], .undef, .undef, .undef, .undef, .undef, .int .i64 ws.length, .int .i64 i] ++ List.replicate 10 .undef, [], []⟩)
      (fun i => i ≤ i0) (fun i => ws.length - i) 0 (Nat.zero_le _) (by simp; omega) (by simp) fun i hi _ => ?_
    have hlt : i < ws.length := by omega
    have hg : ∀ h, (rowsP ws)[i]'h = [AV.int .i64 ws[i].1, AV.str ws[i].2] := fun h => rowsP_at hlt h
    have hs := idx_succ (i := i) hlt (by omega)
    by_cases hii : i = i0
    · subst hii
      simp [hlt, hrl, hg, md62, hbp, hbad]
    · have hgood := hmin i (by omega)
      simp [hlt, hrl, hg, md62, hbp, hgood, hs]
      exact ⟨i + 1, by omega, by omega, by simp⟩
  · refine ⟨-1, call_run rfl fn71 rfl ?_, by simp⟩
    simp [F71, hrl]
    refine RunC_loop (fun i : Nat => ⟨[.rd true (rowsP ws), .fn 62 [.rptr [.rd true (rowsT ss), v]], .undef, .undef, .undef, .undef, .undef, .int .i64 ws.length, .int .i64 i] ++ List.replicate 10 .undef, [], []⟩)
      (fun i => i ≤ ws.length) (fun i => ws.length - i) 0 (Nat.zero_le _) (by simp; omega) (by simp) fun i hi _ => ?_
    by_cases hlt : i < ws.length
    · have hg : ∀ h, (rowsP ws)[i]'h = [AV.int .i64 ws[i].1, AV.str ws[i].2] := fun h => rowsP_at hlt h
      have hs := idx_succ (i := i) hlt (by omega)
      have hgood : goodP ss.length ws[i] = true := List.all_eq_true.1 ha _ (List.getElem_mem hlt)
      simp [hlt, hrl, hg, md62, hbp, hgood, hs]
      exact ⟨i + 1, by omega, by omega, by simp⟩
    · have : i = ws.length := by omega
      subst this
      simp
theorem anyBadP (k : Nat) (ss : List ByteArray) (v : AV) (hs : ss.length ≤ 1048576) (ws : List (Int × ByteArray)) (hn : ws.length ≤ 1048576) : call code (k + 5) 61 [.rd true (rowsP ws), .fn 62 [.rptr [.rd true (rowsT ss), v]]] [] = some ⟨.bool (!(ws.all (goodP ss.length))), [], []⟩ := by
  refine call_run rfl fn61 rfl ?_
  obtain ⟨r, h1, h2⟩ := indexBadP k ss v hs ws hn
  simp [F61, rcall71, h1, h2]
end Go.Ae.R3
