/- ShardsOf, the program's and the reference's; its law. -/
import Derived.Test.YtgmfljabhcamlaaC1O
namespace Go.Ae.C1
set_option linter.unusedSimpArgs false
set_option linter.unusedVariables false
def resSB (ls : List (List UInt8)) (b : Bool) : Res := ⟨.tup [.sl 0 0 0 [] 0 ls.length, .bool b], [⟨0, 1, false, true, rowsS ls⟩], []⟩
def SOf (K M : Int) (l : List UInt8) (ls : List (List UInt8)) (e : Bool) : Prop :=
  (∀ n, call code (n + 9) 19 [.agg [.int .i64 K, .int .i64 M], .str (B l)] [] = some (resSB ls e)) ∧
  (∀ n, call code (n + 9) 18 [.agg [.int .i64 K, .int .i64 M], .str (B l)] [] = some (resSB ls e))
theorem shardsOf (K M : Int) (l : List UInt8) (hl : l.length ≤ 1048576) : ∃ ls e, SOf K M l ls e ∧ ls.length ≤ 1000 := by
  have h0 : ByteArray.empty = B [] := rfl
  have r0 : rowsS [] = [] := rfl
  have i1 := fun k => codeOk k K M
  have s1 := fun k => l04Code k K M
  cases c1 : codeB K M
  · refine ⟨[], false, ⟨fun n => call_run rfl fn19 rfl ?_, fun n => call_run rfl fn18 rfl ?_⟩, by simp⟩
    · simp [F19, rcall72, i1, c1, resSB, r0]
    · simp [F18, rcall69, s1, c1, resSB, r0]
  · obtain ⟨a, b, rfl, rfl, q1, q2, q3⟩ := codeB_nat c1
    cases c2 : decide ((64 : Int) < (l.length : Int))
    · have c2' := of_decide_eq_false c2
      have ish := fun k => shards k a b l q1 (by omega) (by omega)
      have ssh := fun k => l04Shards k a b l q1 (by omega) (by omega)
      have hsl := shs_len a b l
      refine ⟨shs a b l, true, ⟨fun n => call_run rfl fn19 rfl ?_, fun n => call_run rfl fn18 rfl ?_⟩, by omega⟩
      · generalize a + b = ab at *
        simp [F19, rcall72, i1, c1, c2, rcall74, ish, resSB, hsl]
      · generalize a + b = ab at *
        simp [F18, rcall69, s1, c1, c2, rcall71, ssh, resSB, hsl]
    · refine ⟨[], false, ⟨fun n => call_run rfl fn19 rfl ?_, fun n => call_run rfl fn18 rfl ?_⟩, by simp⟩
      · simp [F19, rcall72, i1, c1, c2, resSB, r0]
      · simp [F18, rcall69, s1, c1, c2, resSB, r0]
theorem tkS (ls : List (List UInt8)) : (rowsS ls).take ls.length = rowsS ls := List.take_of_length_le (by simp)
set_option maxRecDepth 100000 in
set_option maxHeartbeats 32000000 in
theorem law4 (n : Nat) (K M : Int) (s : ByteArray) : call code (n + 11) 4 [.agg [.int .i64 K, .int .i64 M], .str s] [] = some ⟨.bool true, [], []⟩ := by
  refine call_run rfl fn4 rfl ?_
  obtain ⟨l, rfl⟩ : ∃ l, s = B l := ⟨_, (B_eta s).symm⟩
  cases g0 : decide ((1048576 : Int) < (l.length : Int))
  · have g0' := of_decide_eq_false g0
    obtain ⟨ls, e, ⟨hi, hs⟩, hb⟩ := shardsOf K M l (by omega)
    simp only [resSB] at hi hs
    have tc := fun k => toCode k K M
    have eg := fun k => eqStringS k (ls.map B) (by simp; omega)
    have m1 := fun k lv E S hlv hg => markStringS k lv E S (ls.map B) 1 (by simp; omega) (by omega) hlv hg
    have hh := fun k => heldStringS k ls.length 1 (by omega) (by omega)
    have hr : rowsS ls = rws encT (ls.map B) := rfl
    have hl1 : (ls.map B).length = ls.length := by simp
    rw [hr] at hi hs
    rw [hl1] at m1
    have hpa := fun (l : Heap) (S : Nat) (h : l.set S (some ⟨0, 1, false, true, rws encT (ls.map B)⟩) = l) => hpm_all (enc := encT) (sz := 1) (mk := mkT) (l := l) (S := S) (c := 1) (ws := ls.map B) h
    rw [hl1] at hpa
    have hln : (rws encT (ls.map B)).length = ls.length := by simp
    have htk : (rws encT (ls.map B)).take ls.length = rws encT (ls.map B) := List.take_of_length_le (by simp)
    have hln2 : (rws encT (marks mkT 1 ls.length)).length = ls.length := by simp
    have htk2 : (rws encT (marks mkT 1 ls.length)).take ls.length = rws encT (marks mkT 1 ls.length) := List.take_of_length_le (by simp)
    have d2 : decide (1 + (ls.length : Int) < 0) = false := by simp <;> omega
    generalize ls.map B = ws at *
    generalize ls.length = L at *
    simp (maxSteps := 20000000) [F4, g0, rcall16, tc, rcall18, hs, rcall19, hi, rcall20, eg, rcall21, m1, rcall22, hh, hpa, hln, htk, hln2, htk2, d2]
  · simp [F4, g0]
theorem lawShardsOf (avs : List AV) (h : PFitsAll [(true, [.int .i64, .int .i64]), (false, [.str])] avs) : ∃ n bs e, call code n 4 avs [] = some ⟨.bool true, bs, e⟩ := by
  obtain ⟨v0, r, rfl, h0, h⟩ := h.cons_inv
  obtain ⟨v1, r, rfl, h1, h⟩ := h.cons_inv
  obtain rfl := h.nil_inv
  obtain ⟨cs, rfl, f0⟩ := h0.agg_inv
  obtain ⟨_, _, rfl, c0, f1⟩ := f0.cons_inv
  obtain ⟨_, _, rfl, c1, f2⟩ := f1.cons_inv
  obtain rfl := f2.nil_inv
  obtain ⟨a, rfl, _⟩ := c0.i64_inv
  obtain ⟨b, rfl, _⟩ := c1.i64_inv
  obtain ⟨s, rfl, _⟩ := h1.one_inv.str_inv
  exact ⟨_, _, _, law4 0 a b s⟩
end Go.Ae.C1
