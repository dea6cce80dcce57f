/- ShardAt and ShardsOf, the program's and the reference's. -/
import Derived.Test.YtgmfljabhcamlaaC1N
import Derived.Test.YtgmfljabhcamlaaC1S
namespace Go.Ae.C1
set_option linter.unusedSimpArgs false
set_option linter.unusedVariables false
def codeB (K M : Int) : Bool := inB K 1 4 && inB M 0 3
theorem codeOk (k : Nat) (K M : Int) : call code (k + 2) 72 [.agg [.int .i64 K, .int .i64 M]] [] = some ⟨.bool (codeB K M), [], []⟩ := by
  refine call_run rfl fn72 rfl ?_
  have h1 := fun k => between k K 1 4
  have h2 := fun k => between k M 0 3
  cases c1 : inB K 1 4
  · simp [F72, rcall78, h1, c1, codeB]
  · simp [F72, rcall78, h1, h2, c1, codeB]
theorem l04Code (k : Nat) (K M : Int) : call code (k + 2) 69 [.agg [.int .i64 K, .int .i64 M]] [] = some ⟨.bool (codeB K M), [], []⟩ := by
  refine call_run rfl fn69 rfl ?_
  have h1 := fun k => l00In k K 1 4
  have h2 := fun k => l00In k M 0 3
  cases c1 : inB K 1 4
  · simp [F69, rcall70, h1, c1, codeB]
  · simp [F69, rcall70, h1, h2, c1, codeB]
theorem codeB_nat {K M : Int} (h : codeB K M = true) : ∃ a b : Nat, K = a ∧ M = b ∧ 1 ≤ a ∧ a ≤ 4 ∧ b ≤ 3 := by
  simp [codeB, inB] at h
  exact ⟨K.toNat, M.toNat, by omega, by omega, by omega, by omega, by omega⟩
theorem size (k : Nat) (K M : Nat) (h : K ≤ 1000 ∧ M ≤ 1000) : call code (k + 1) 81 [.agg [.int .i64 K, .int .i64 M]] [] = some ⟨.int .i64 (K + M : Nat), [], []⟩ := by
  refine call_run rfl fn81 rfl ?_
  have e1 : IntKind.wrap .i64 ((K : Int) + (M : Int)) = ((K + M : Nat) : Int) := by rw [wrap64 ⟨by omega, by omega⟩]; omega
  generalize K + M = q at *
  simp [F81, e1]
theorem isPos (k : Nat) (K M : Nat) (p : Int) (h : K ≤ 1000 ∧ M ≤ 1000) : call code (k + 2) 73 [.agg [.int .i64 K, .int .i64 M], .int .i64 p] [] = some ⟨.bool (inB p 0 ((K + M : Nat) - 1)), [], []⟩ := by
  refine call_run rfl fn73 rfl ?_
  have hz := fun k => size k K M h
  have e1 : IntKind.wrap .i64 (((K + M : Nat) : Int) - 1) = ((K + M : Nat) : Int) - 1 := wrap64 ⟨by omega, by omega⟩
  have hb := fun k => between k p 0 (((K + M : Nat) : Int) - 1)
  generalize K + M = q at *
  simp [F73, rcall81, hz, e1, rcall78, hb]
theorem shs_len (K M : Nat) (l : List UInt8) : (shs K M l).length = K + M := by simp [shs, pcs_len]
/-- What both answer. -/
def SAt (K M : Int) (l : List UInt8) (p : Int) (t : List UInt8) (e : Int) : Prop :=
  (∀ n, call code (n + 9) 17 [.agg [.int .i64 K, .int .i64 M], .str (B l), .int .i64 p] [] = some ⟨.tup [.str (B t), .int .i64 e], [], []⟩) ∧
  (∀ n, call code (n + 9) 15 [.agg [.int .i64 K, .int .i64 M], .str (B l), .int .i64 p] [] = some ⟨.tup [.str (B t), .int .i64 e], [], []⟩)
theorem shardAt (K M : Int) (l : List UInt8) (p : Int) (hl : l.length ≤ 1048576) : ∃ t e, SAt K M l p t e := by
  have h0 : ByteArray.empty = B [] := rfl
  have i1 := fun k => codeOk k K M
  have s1 := fun k => l04Code k K M
  cases c1 : codeB K M
  · refine ⟨[], 1, fun n => call_run rfl fn17 rfl ?_, fun n => call_run rfl fn15 rfl ?_⟩
    · simp [F17, rcall72, i1, c1, h0]
    · simp [F15, rcall69, s1, c1, h0]
  · obtain ⟨a, b, rfl, rfl, q1, q2, q3⟩ := codeB_nat c1
    cases c2 : decide (64 < l.length)
    · have c2' := of_decide_eq_false c2
      have d2 : decide ((64 : Int) < (l.length : Int)) = false := by simp; omega
      have i2 := fun k => isPos k a b p (by omega)
      have e1 : IntKind.wrap .i64 ((a : Int) + (b : Int)) = ((a + b : Nat) : Int) := by rw [wrap64 ⟨by omega, by omega⟩]; omega
      have e2 : IntKind.wrap .i64 (((a + b : Nat) : Int) - 1) = ((a + b : Nat) : Int) - 1 := wrap64 ⟨by omega, by omega⟩
      have s2 := fun k => l00In k p 0 (((a + b : Nat) : Int) - 1)
      have ish := fun k => shards k a b l q1 (by omega) (by omega)
      have ssh := fun k => l04Shards k a b l q1 (by omega) (by omega)
      have hsl := shs_len a b l
      cases c3 : inB p 0 (((a + b : Nat) : Int) - 1)
      · refine ⟨[], 2, fun n => call_run rfl fn17 rfl ?_, fun n => call_run rfl fn15 rfl ?_⟩
        · generalize a + b = ab at *
          simp [F17, rcall72, i1, c1, h0, c2, d2, rcall73, i2, c3]
        · generalize a + b = ab at *
          simp [F15, rcall69, s1, c1, h0, c2, d2, e1, e2, rcall70, s2, c3]
      · have q4 := c3
        simp [inB] at q4
        obtain ⟨j, rfl⟩ : ∃ j : Nat, p = j := ⟨p.toNat, by omega⟩
        have hj : j < (shs a b l).length := by omega
        have hg : ∀ h, (rowsS (shs a b l))[j]'h = [.str (B (shs a b l)[j])] := fun h => rowsS_get hj h
        refine ⟨(shs a b l)[j], 0, fun n => call_run rfl fn17 rfl ?_, fun n => call_run rfl fn15 rfl ?_⟩
        · generalize a + b = ab at *
          have hj' : j < ab := by omega
          simp [F17, rcall72, i1, c1, h0, c2, d2, rcall73, i2, c3, rcall74, ish, hj', hg, hsl]
        · generalize a + b = ab at *
          have hj' : j < ab := by omega
          simp [F15, rcall69, s1, c1, h0, c2, d2, e1, e2, rcall70, s2, c3, rcall71, ssh, hj', hg, hsl]
    · have d2 : decide ((64 : Int) < (l.length : Int)) = true := by have := of_decide_eq_true c2; simp; omega
      refine ⟨[], 4, fun n => call_run rfl fn17 rfl ?_, fun n => call_run rfl fn15 rfl ?_⟩
      · simp [F17, rcall72, i1, c1, h0, c2, d2]
      · simp [F15, rcall69, s1, c1, h0, c2, d2]
theorem law3 (n : Nat) (K M : Int) (s : ByteArray) (p : Int) : call code (n + 11) 3 [.agg [.int .i64 K, .int .i64 M], .str s, .int .i64 p] [] = some ⟨.bool true, [], []⟩ := by
  refine call_run rfl fn3 rfl ?_
  obtain ⟨l, rfl⟩ : ∃ l, s = B l := ⟨_, (B_eta s).symm⟩
  cases g0 : decide ((1048576 : Int) < (l.length : Int))
  · have g0' := of_decide_eq_false g0
    obtain ⟨t, e, hi, hs⟩ := shardAt K M l p (by omega)
    have tc := fun k => toCode k K M
    simp [F3, g0, rcall16, tc, rcall15, hs, rcall17, hi]
  · simp [F3, g0]
theorem lawShardAt (avs : List AV) (h : PFitsAll [(true, [.int .i64, .int .i64]), (false, [.str]), (false, [.int .i64])] avs) : ∃ n bs e, call code n 3 avs [] = some ⟨.bool true, bs, e⟩ := by
  obtain ⟨v0, r, rfl, h0, h⟩ := h.cons_inv
  obtain ⟨v1, r, rfl, h1, h⟩ := h.cons_inv
  obtain ⟨v2, r, rfl, h2, h⟩ := h.cons_inv
  obtain rfl := h.nil_inv
  obtain ⟨cs, rfl, f0⟩ := h0.agg_inv
  obtain ⟨_, _, rfl, c0, f1⟩ := f0.cons_inv
  obtain ⟨_, _, rfl, c1, f2⟩ := f1.cons_inv
  obtain rfl := f2.nil_inv
  obtain ⟨a, rfl, _⟩ := c0.i64_inv
  obtain ⟨b, rfl, _⟩ := c1.i64_inv
  obtain ⟨s, rfl, _⟩ := h1.one_inv.str_inv
  obtain ⟨p, rfl, _⟩ := h2.one_inv.i64_inv
  exact ⟨_, _, _, law3 0 a b s p⟩
end Go.Ae.C1
