/- Matrices that come in: measured, copied, looked at. -/
import Derived.Test.YtppcbpmnfahnkaaR2F
namespace Go.Ae.R2
set_option linter.unusedSimpArgs false
set_option linter.unusedVariables false
@[simp] theorem evalW_callv (O : Oracle) (md : Nat → Mode) (st : St) (base : Nat) (x : X) (args : List X) (fl : Bool) : evalW O md st base (.callv x args fl) = match evalX st x with
    | .fn f caps => match md f with
      | .val => match callVal O st base f (evalXs st args ++ caps) fl with
        | some (v, n) => match addNews st n with
          | some st' => some (v, st')
          | none => none
        | none => none
      | .view => match callView O st f (evalXs st args ++ caps) with
        | some v => some (v, st)
        | none => none
      | .ref => callRef O st base f (evalXs st args ++ caps) fl
    | _ => none := rfl
theorem md61 : code.md 61 = .val := rfl
def szI (l : Int) (n : Nat) : Int := if l - n < 0 then -1 else l - n
theorem szInt64S (k : Nat) (l : Int) (ws : List Int) (h : 0 ≤ l ∧ l ≤ 1048576) (hn : ws.length ≤ 140737488351232) : call code (k + 1) 35 [.rd true (rowsZ ws), .int .i64 l] [] = some ⟨.int .i64 (szI l ws.length), [], []⟩ := by
  refine call_run rfl fn35 rfl ?_
  have hrl := rowsZ_len ws
  have hw := wrap64 (show -9223372036854775808 ≤ l - (ws.length : Int) ∧ l - (ws.length : Int) ≤ 9223372036854775807 from ⟨by omega, by omega⟩)
  cases hd : decide (l - (ws.length : Int) < 0)
  · simp [F35, hrl, hw, hd]; simp at hd; simp [szI]; omega
  · simp [F35, hrl, hw, hd]; simp at hd; simp [szI]; omega
theorem szMatrix (k : Nat) (l h w : Int) (ws : List Int) (hh : 0 ≤ l ∧ l ≤ 1048576) (hn : ws.length ≤ 140737488351232) : call code (k + 2) 14 [.agg [.int .i64 h, .int .i64 w, .rd true (rowsZ ws)], .int .i64 l] [] = some ⟨.int .i64 (szI l ws.length), [], []⟩ := by
  refine call_run rfl fn14 rfl ?_
  have hs := fun k => szInt64S k l ws hh hn
  cases hd : decide (szI l ws.length < 0)
  · simp [F14, rcall35, hs, hd]
  · have h1 : szI l ws.length = -1 := by
      have := of_decide_eq_true hd
      unfold szI at this ⊢
      split <;> simp_all
    simp [F14, rcall35, hs, hd, h1]
def cpy (ws : List Int) (i : Nat) : List Int := ws.take i ++ List.replicate (ws.length - i) 0
theorem cpy_len {ws : List Int} {i : Nat} (h : i ≤ ws.length) : (cpy ws i).length = ws.length := by simp [cpy]; omega
theorem cpy_set {ws : List Int} {i : Nat} (h : i < ws.length) : (cpy ws i).set i ws[i] = cpy ws (i + 1) := by
  unfold cpy
  have hl : (ws.take i).length = i := by simp; omega
  rw [List.set_append_right i _ (by omega), hl, Nat.sub_self]
  obtain ⟨m, hm⟩ : ∃ m, ws.length - i = m + 1 := ⟨ws.length - i - 1, by omega⟩
  rw [hm, show ws.length - (i + 1) = m by omega, List.replicate_succ, List.set_cons_zero, List.take_succ_eq_append_getElem h]
  simp only [List.append_assoc, List.singleton_append]
theorem toInt64S (k : Nat) (ws : List Int) (hn : ws.length ≤ 1048576) : call code (k + 1) 38 [.rd true (rowsZ ws)] [] = some ⟨.sl 0 0 0 [] 0 ws.length, [⟨0, 1, false, true, rowsZ ws⟩], []⟩ := by
  refine call_run rfl fn38 rfl ?_
  have hrl := rowsZ_len ws
  simp [F38, hrl, zeroRow]
  refine ⟨⟨by omega, by omega⟩, ?_⟩
  refine RunC_loop (fun i : Nat => ⟨[.rd true (rowsZ ws), .undef, .undef, .sl 0 66048 0 [] 0 ws.length, .int .i64 i] ++ List.replicate 17 .undef, [(0, some ⟨0, 1, false, true, []⟩), (66048, some ⟨0, 1, false, true, rowsZ (cpy ws i)⟩)], []⟩)
    (fun i => i ≤ ws.length) (fun i => ws.length - i) 0 (Nat.zero_le _) (by simp; omega) (by simp [cpy, rowsZ]) fun i hi _ => ?_
  have hcl := cpy_len hi
  have hrc := rowsZ_len (cpy ws i)
  rw [hcl] at hrc
  by_cases hlt : i < ws.length
  · have hg : ∀ h, (rowsZ ws)[i]'h = [AV.int .i64 ws[i]] := fun h => rowsZ_at hlt h
    have hg2 : ∀ h, (rowsZ (cpy ws i))[i]'h = [AV.int .i64 ((cpy ws i)[i]'(by omega))] := fun h => rowsZ_at _ h
    have hst : (rowsZ (cpy ws i)).set i [.int .i64 ws[i]] = rowsZ (cpy ws (i + 1)) := by rw [rowsZ_set, cpy_set hlt]
    have hs : IntKind.wrap .i64 ((i : Int) + 1) = ((i + 1 : Nat) : Int) := by rw [wrap64 ⟨by omega, by omega⟩]; omega
    simp [hlt, hrl, hrc, hg, hg2, hst, hs]
    exact ⟨i + 1, by omega, by omega, by simp, rfl⟩
  · have : i = ws.length := by omega
    subst this
    have hc : cpy ws ws.length = ws := by simp [cpy]
    simp [hrl, hc]
theorem toMatrix (k : Nat) (h w : Int) (ws : List Int) (hn : ws.length ≤ 1048576) : call code (k + 2) 16 [.agg [.int .i64 h, .int .i64 w, .rd true (rowsZ ws)]] [] = some ⟨.agg [.int .i64 h, .int .i64 w, .sl 0 0 0 [] 0 ws.length], [⟨0, 1, false, true, rowsZ ws⟩], []⟩ := by
  refine call_run rfl fn16 rfl ?_
  simp [F16, rcall38, toInt64S _ _ hn]
theorem l00In (k : Nat) (a b c : Int) : call code (k + 1) 59 [.int .i64 a, .int .i64 b, .int .i64 c] [] = some ⟨.bool (inB a b c), [], []⟩ := by
  refine call_run rfl fn59 rfl ?_
  simp [F59]
  repeat' ((first | apply RunG_ncase | apply RunB_ncase | apply RunG_case | apply RunB_case | apply RunP_case) <;> intro h <;> simp [h])
  all_goals (simp_all [inB] <;> omega)
def elB (c : Int) : Bool := inB c 0 255
theorem l02Byte (k : Nat) (c : Int) : call code (k + 2) 60 [.int .i64 c] [] = some ⟨.bool (elB c), [], []⟩ := by
  refine call_run rfl fn60 rfl ?_
  simp [F60, rcall59, l00In, elB]
theorem isElement (k : Nat) (c : Int) : call code (k + 2) 62 [.int .i64 c] [] = some ⟨.bool (elB c), [], []⟩ := by
  refine call_run rfl fn62 rfl ?_
  simp [F62, rcall30, between, elB]
theorem notElement (k : Nat) (c : Int) : call code (k + 3) 61 [.int .i64 c] [] = some ⟨.bool (!elB c), [], []⟩ := by
  refine call_run rfl fn61 rfl ?_
  simp [F61, rcall62, isElement]
theorem indexFunc (k : Nat) (ws : List Int) (hn : ws.length ≤ 1048576) : ∃ r : Int, call code (k + 4) 64 [.rd true (rowsZ ws), .fn 61 []] [] = some ⟨.int .i64 r, [], []⟩ ∧ decide (0 ≤ r) = !(ws.all elB) := by
  have hrl := rowsZ_len ws
  cases ha : ws.all elB
  · obtain ⟨i0, hi0, hbad, hmin⟩ : ∃ (i : Nat) (h : i < ws.length), elB ws[i] = false ∧ ∀ j (hj : j < i), elB (ws[j]'(by omega)) = true := by
      have hex : ∃ i, ∃ h : i < ws.length, elB ws[i] = false := by
        rw [List.all_eq_false] at ha
        obtain ⟨x, hx, hb⟩ := ha
        obtain ⟨i, hi, rfl⟩ := List.getElem_of_mem hx
        exact ⟨i, hi, by simpa using hb⟩
      obtain ⟨n, ⟨h1, h2⟩, h3⟩ := least hex
      refine ⟨n, h1, h2, fun j hj => ?_⟩
      cases hb : elB (ws[j]'(by omega)) with
      | true => rfl
      | false => exact absurd (h3 j ⟨by omega, hb⟩) (by omega)
    refine ⟨i0, call_run rfl fn64 rfl ?_, by simp⟩
    simp [F64, hrl]
    refine RunC_loop (fun i : Nat => ⟨[.rd true (rowsZ ws), .fn 61 [], .undef, .undef, .undef, .undef, .undef, .int .i64 ws.length, .int .i64 i] ++ List.replicate 10 .undef, [], []⟩)
      (fun i => i ≤ i0) (fun i => ws.length - i) 0 (Nat.zero_le _) (by simp; omega) (by simp) fun i hi _ => ?_
    have hlt : i < ws.length := by omega
    have hg : ∀ h, (rowsZ ws)[i]'h = [AV.int .i64 ws[i]] := fun h => rowsZ_at hlt h
    have hs : IntKind.wrap .i64 ((i : Int) + 1) = ((i + 1 : Nat) : Int) := by rw [wrap64 ⟨by omega, by omega⟩]; omega
    by_cases hii : i = i0
    · subst hii
      simp [hlt, hrl, hg, md61, notElement, hbad]
    · have hgood := hmin i (by omega)
      simp [hlt, hrl, hg, md61, notElement, hgood, hs]
      exact ⟨i + 1, by omega, by omega, by simp⟩
  · refine ⟨-1, call_run rfl fn64 rfl ?_, by simp⟩
    simp [F64, hrl]
    refine RunC_loop (fun i : Nat => ⟨[.rd true (rowsZ ws), .fn 61 [], .undef, .undef, .undef, .undef, .undef, .int .i64 ws.length, .int .i64 i] ++ List.replicate 10 .undef, [], []⟩)
      (fun i => i ≤ ws.length) (fun i => ws.length - i) 0 (Nat.zero_le _) (by simp; omega) (by simp) fun i hi _ => ?_
    by_cases hlt : i < ws.length
    · have hg : ∀ h, (rowsZ ws)[i]'h = [AV.int .i64 ws[i]] := fun h => rowsZ_at hlt h
      have hs : IntKind.wrap .i64 ((i : Int) + 1) = ((i + 1 : Nat) : Int) := by rw [wrap64 ⟨by omega, by omega⟩]; omega
      have hgood : elB ws[i] = true := List.all_eq_true.1 ha _ (List.getElem_mem hlt)
      simp [hlt, hrl, hg, md61, notElement, hgood, hs]
      exact ⟨i + 1, by omega, by omega, by simp⟩
    · have : i = ws.length := by omega
      subst this
      simp
theorem containsFunc (k : Nat) (ws : List Int) (hn : ws.length ≤ 1048576) : call code (k + 5) 42 [.rd true (rowsZ ws), .fn 61 []] [] = some ⟨.bool (!(ws.all elB)), [], []⟩ := by
  refine call_run rfl fn42 rfl ?_
  obtain ⟨r, h1, h2⟩ := indexFunc k ws hn
  simp [F42, rcall64, h1, h2]
end Go.Ae.R2
