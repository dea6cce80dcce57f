/- Lists of states in order: the program's check and the reference's. -/
import Derived.Test.YtiabjkihebhfkaaGreatHDA
import Derived.Test.YtiabjkihebhfkaaGreatHCQ
namespace Go.Ae.GA.B
set_option linter.unusedSimpArgs false
set_option linter.unusedVariables false
set_option maxRecDepth 10000
def stG (x : GSt) : Bool := stateB x.p0 x.p1 x.se x.st x.te x.ts x.hs x.ls x.es x.fe x.fs x.cs
def lsT (a b : GSt) : Bool := lessB a.p0 a.p1 b.p0 b.p1
def okT (cs : List GSt) (i : Nat) : Bool := match cs[i]? with
  | some c => stG c && (match i with
    | 0 => true
    | j + 1 => match cs[j]? with
      | some b => lsT b c
      | none => false)
  | none => false
def stsB (cs : List GSt) : Bool := (List.range cs.length).all (okT cs) && decide ((cs.length : Int) ≤ 8)
/-- Sizes that the sums allow. -/
def GSt.small (x : GSt) : Prop := x.few ∧ (∀ c ∈ x.hs, c.Name.size ≤ 1048576) ∧ (∀ c ∈ x.es, c.Name.size ≤ 1048576) ∧ (∀ c ∈ x.cs, c.Name.size ≤ 1048576)
theorem comparePgs (k : Nat) (a b c d : Int) : call code (k + 3) 243 [.agg [.int .i64 a, .int .i64 b], .agg [.int .i64 c, .int .i64 d]] [] = some ⟨.int .i64 (cmpV a b c d), [], []⟩ := by
  refine call_run rfl fn243 rfl ?_
  have o := fun k => orS k [cmpI a c, cmpI b d] (by simp)
  simp only [rws, List.map, encI] at o
  simp [F243, rcall185, compare, rcall188, o, cmpV]
theorem l18Less (k : Nat) (a b c d : Int) : call code (k + 1) 242 [.agg [.int .i64 a, .int .i64 b], .agg [.int .i64 c, .int .i64 d]] [] = some ⟨.bool (lessB a b c d), [], []⟩ := by
  refine call_run rfl fn242 rfl ?_
  unfold lessB
  cases c1 : decide (a < c) <;> cases c2 : a == c <;> cases c3 : decide (b < d) <;> simp [F242, c1, c2, c3]
theorem cmpT_lt (a b : GSt) : decide (0 ≤ cmpV a.p0 a.p1 b.p0 b.p1) = !lsT a b := by
  have h := cmpV_neg a.p0 a.p1 b.p0 b.p1
  unfold lsT
  rw [← h]
  by_cases h2 : cmpV a.p0 a.p1 b.p0 b.p1 < 0
  · have : ¬ 0 ≤ cmpV a.p0 a.p1 b.p0 b.p1 := by omega
    simp [h2, this]
  · have : 0 ≤ cmpV a.p0 a.p1 b.p0 b.p1 := by omega
    simp [h2, this]
theorem okT_zero {cs : List GSt} (h : 0 < cs.length) : okT cs 0 = stG cs[0] := by
  unfold okT; rw [List.getElem?_eq_getElem h]; simp
theorem okT_succ {cs : List GSt} {i : Nat} (h : i < cs.length) (h0 : 0 < i) : okT cs i = (stG cs[i] && lsT (cs[i - 1]'(by omega)) cs[i]) := by
  unfold okT
  rw [List.getElem?_eq_getElem h]
  obtain ⟨j, rfl⟩ : ∃ j, i = j + 1 := ⟨i - 1, by omega⟩
  simp [List.getElem?_eq_getElem (show j < cs.length by omega)]
set_option maxRecDepth 100000 in
set_option maxHeartbeats 800000 in
theorem statesOk (k : Nat) (cs : List GSt) (hn : cs.length ≤ 1048576) (hz : ∀ c ∈ cs, c.small) : call code (k + 8) 205 [.rd false (rws GSt.enc cs)] [] = some ⟨.bool (stsB cs), [], []⟩ := by
  refine call_run rfl fn205 rfl ?_
  simp [F205]
  refine RunC_loop (fun i : Nat => ⟨tm 35 [(0, .rd false (rws GSt.enc cs)), (5, .rd false (rws GSt.enc cs)), (6, .int .i64 cs.length), (7, .int .i64 i)], [], []⟩)
    (fun i => i ≤ cs.length ∧ ∀ j, j < i → okT cs j = true) (fun i => cs.length - i) 0 ⟨by omega, by omega⟩ (by simp; omega) (by simp [tm]) fun i hi _ => ?_
  obtain ⟨hi, h0⟩ := hi
  by_cases hlt : i < cs.length
  · have hs' := idx_succ' hlt (by omega)
    have hg : ∀ hh, (rws GSt.enc cs)[i]'hh = GSt.enc cs[i] := fun hh => rws_get ..
    have hrl := rws_len (enc := GSt.enc) cs
    have ck := fun k => stateOk k cs[i].p0 cs[i].p1 cs[i].se cs[i].st cs[i].te cs[i].ts cs[i].hs cs[i].ls cs[i].es cs[i].fe cs[i].fs cs[i].cs (hz _ (List.getElem_mem hlt)).1.1 (hz _ (List.getElem_mem hlt)).1.2.1 (hz _ (List.getElem_mem hlt)).1.2.2.1 (hz _ (List.getElem_mem hlt)).1.2.2.2 (hz _ (List.getElem_mem hlt)).2.1 (hz _ (List.getElem_mem hlt)).2.2.1 (hz _ (List.getElem_mem hlt)).2.2.2
    have next : okT cs i = true → ∃ a, (a ≤ cs.length ∧ ∀ j, j < a → okT cs j = true) ∧ cs.length - a < cs.length - i ∧ ((i + 1 : Nat) : Int) = (a : Int) := fun h => ⟨i + 1, ⟨by omega, fun j hj => by
      rcases Nat.lt_succ_iff_lt_or_eq.1 hj with h1 | rfl
      · exact h0 j h1
      · exact h⟩, by omega, rfl⟩
    have stop : okT cs i = false → stsB cs = false := fun h => by unfold stsB; rw [range_false hlt h]; rfl
    by_cases hz0 : i = 0
    · subst hz0
      have e := okT_zero hlt
      cases c1 : stG cs[0]
      · rw [c1] at e
        unfold stG at c1
        unfold psV at ck
        rw [c1] at ck
        have := stop e
        simp only [GSt.enc] at hg
        simp [tm, hlt, hg, storeM, rcall66, ck, this]
      · rw [c1] at e
        unfold stG at c1
        unfold psV at ck
        rw [c1] at ck
        have := next e
        simp only [GSt.enc] at hg
        have w01 : IntKind.wrap .i64 1 = 1 := wrap64 ⟨by omega, by omega⟩
        simp [tm, hlt, hg, storeM, rcall66, ck, w01]
        simpa using this
    · have e := okT_succ hlt (by omega)
      have hg2 : ∀ hh, (rws GSt.enc cs)[i - 1]'hh = GSt.enc (cs[i - 1]'(by omega)) := fun hh => rws_get ..
      have w1 : IntKind.wrap .i64 ((i : Int) - 1) = ((i - 1 : Nat) : Int) := by rw [wrap64 ⟨by omega, by omega⟩]; omega
      have hi1 : i - 1 < cs.length := by omega
      have cc := fun k => comparePgs k (cs[i - 1]'(by omega)).p0 (cs[i - 1]'(by omega)).p1 cs[i].p0 cs[i].p1
      have cl := cmpT_lt (cs[i - 1]'(by omega)) cs[i]
      have hi0 : 0 < i := by omega
      cases c1 : stG cs[i]
      · rw [c1] at e
        unfold stG at c1
        unfold psV at ck
        rw [c1] at ck
        have := stop e
        simp only [GSt.enc] at hg
        simp [tm, hlt, hg, storeM, rcall66, ck, this]
      rw [c1, Bool.true_and] at e
      unfold stG at c1
      unfold psV at ck
      rw [c1] at ck
      rw [← e] at cl
      cases c2 : okT cs i
      · have := stop c2
        rw [c2] at cl
        simp only [GSt.enc] at hg hg2
        simp [tm, hlt, hg, storeM, rcall66, ck, hi0, w1, hi1, hrl, hg2, rcall243, cc, cl, this]
      · have := next c2
        rw [c2] at cl
        simp only [GSt.enc] at hg hg2
        simp [tm, hlt, hg, storeM, rcall66, ck, hi0, w1, hi1, hrl, hg2, rcall243, cc, cl, hs']
        simpa using this
  · have : i = cs.length := by omega
    subst this
    have e : stsB cs = decide ((cs.length : Int) ≤ 8) := by unfold stsB; rw [range_all.2 h0]; rfl
    rw [e]
    have hrl := rws_len (enc := GSt.enc) cs
    simp [tm, hrl]
set_option maxRecDepth 100000 in
set_option maxHeartbeats 800000 in
theorem l18List (k : Nat) (cs : List GSt) (hn : cs.length ≤ 1048576) (hz : ∀ c ∈ cs, c.small) : call code (k + 8) 204 [.rd false (rws GSt.enc cs)] [] = some ⟨.bool (stsB cs), [], []⟩ := by
  refine call_run rfl fn204 rfl ?_
  simp [F204]
  refine RunC_loop (fun i : Nat => ⟨tm 42 [(0, .rd false (rws GSt.enc cs)), (3, .int .i64 i)], [], []⟩)
    (fun i => i ≤ cs.length ∧ ∀ j, j < i → okT cs j = true) (fun i => cs.length - i) 0 ⟨by omega, by omega⟩ (by simp; omega) (by simp [tm]) fun i hi _ => ?_
  obtain ⟨hi, h0⟩ := hi
  by_cases hlt0 : 8 < i
  · have e : stsB cs = false := by unfold stsB; rw [show decide ((cs.length : Int) ≤ 8) = false from decide_eq_false (by omega)]; simp
    have hrl := rws_len (enc := GSt.enc) cs
    have d1 : ¬ (i : Int) ≤ 8 := by omega
    have d2 : ¬ (cs.length : Int) ≤ 8 := by omega
    have d3 : ¬ i ≤ 8 := by omega
    have d4 : ¬ cs.length ≤ 8 := by omega
    rw [e]
    by_cases hlt : i < cs.length <;> simp [tm, hlt, d1, hrl, d1, d2, d3, d4]
  have d1 : (i : Int) ≤ 8 := by omega
  by_cases hlt : i < cs.length
  · have hs' := idx_succ' hlt (by omega)
    have hg : ∀ hh, (rws GSt.enc cs)[i]'hh = GSt.enc cs[i] := fun hh => rws_get ..
    have hrl := rws_len (enc := GSt.enc) cs
    have ck := fun k => stateOkS k cs[i].p0 cs[i].p1 cs[i].se cs[i].st cs[i].te cs[i].ts cs[i].hs cs[i].ls cs[i].es cs[i].fe cs[i].fs cs[i].cs (hz _ (List.getElem_mem hlt)).1.1 (hz _ (List.getElem_mem hlt)).1.2.1 (hz _ (List.getElem_mem hlt)).1.2.2.1 (hz _ (List.getElem_mem hlt)).1.2.2.2 (hz _ (List.getElem_mem hlt)).2.1 (hz _ (List.getElem_mem hlt)).2.2.1 (hz _ (List.getElem_mem hlt)).2.2.2
    have next : okT cs i = true → ∃ a, (a ≤ cs.length ∧ ∀ j, j < a → okT cs j = true) ∧ cs.length - a < cs.length - i ∧ ((i + 1 : Nat) : Int) = (a : Int) := fun h => ⟨i + 1, ⟨by omega, fun j hj => by
      rcases Nat.lt_succ_iff_lt_or_eq.1 hj with h1 | rfl
      · exact h0 j h1
      · exact h⟩, by omega, rfl⟩
    have stop : okT cs i = false → stsB cs = false := fun h => by unfold stsB; rw [range_false hlt h]; rfl
    by_cases hz0 : i = 0
    · subst hz0
      have e := okT_zero hlt
      cases c1 : stG cs[0]
      · rw [c1] at e
        unfold stG at c1
        unfold psV at ck
        rw [c1] at ck
        have := stop e
        simp only [GSt.enc] at hg
        simp [tm, hlt, d1, hg, storeM, rcall29, ck, this]
      · rw [c1] at e
        unfold stG at c1
        unfold psV at ck
        rw [c1] at ck
        have := next e
        simp only [GSt.enc] at hg
        have w01 : IntKind.wrap .i64 1 = 1 := wrap64 ⟨by omega, by omega⟩
        simp [tm, hlt, d1, hg, storeM, rcall29, ck, w01]
        simpa using this
    · have e := okT_succ hlt (by omega)
      have hg2 : ∀ hh, (rws GSt.enc cs)[i - 1]'hh = GSt.enc (cs[i - 1]'(by omega)) := fun hh => rws_get ..
      have w1 : IntKind.wrap .i64 ((i : Int) - 1) = ((i - 1 : Nat) : Int) := by rw [wrap64 ⟨by omega, by omega⟩]; omega
      have hi1 : i - 1 < cs.length := by omega
      have cc := fun k => l18Less k (cs[i - 1]'(by omega)).p0 (cs[i - 1]'(by omega)).p1 cs[i].p0 cs[i].p1
      have ec : lessB (cs[i - 1]'(by omega)).p0 (cs[i - 1]'(by omega)).p1 cs[i].p0 cs[i].p1 = lsT (cs[i - 1]'(by omega)) cs[i] := rfl
      rw [ec] at cc
      have hi0 : 0 < i := by omega
      cases c1 : stG cs[i]
      · rw [c1] at e
        unfold stG at c1
        unfold psV at ck
        rw [c1] at ck
        have := stop e
        simp only [GSt.enc] at hg
        simp [tm, hlt, d1, hg, storeM, rcall29, ck, this]
      rw [c1, Bool.true_and] at e
      unfold stG at c1
      unfold psV at ck
      rw [c1] at ck
      rw [← e] at cc
      cases c2 : okT cs i
      · have := stop c2
        rw [c2] at cc
        simp only [GSt.enc] at hg hg2
        simp [tm, hlt, d1, hg, storeM, rcall29, ck, hi0, w1, hi1, hrl, hg2, rcall242, cc, this]
      · have := next c2
        rw [c2] at cc
        simp only [GSt.enc] at hg hg2
        simp [tm, hlt, d1, hg, storeM, rcall29, ck, hi0, w1, hi1, hrl, hg2, rcall242, cc, hs']
        simpa using this
  · have : i = cs.length := by omega
    subst this
    have e : stsB cs = decide ((cs.length : Int) ≤ 8) := by unfold stsB; rw [range_all.2 h0]; rfl
    rw [e]
    have hrl := rws_len (enc := GSt.enc) cs
    simp [tm, d1, hrl]
end Go.Ae.GA.B
