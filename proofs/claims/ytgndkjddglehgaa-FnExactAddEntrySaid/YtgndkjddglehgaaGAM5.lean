/- Heads and last requests: the loops. -/
import Derived.Test.YtgndkjddglehgaaGAM4
namespace Go.Ae.GA
set_option linter.unusedSimpArgs false
set_option linter.unusedVariables false
set_option maxRecDepth 100000 in
set_option maxHeartbeats 32000000 in
theorem l17Heads (k : Nat) (te ts : Int) (xs : List GHead) (hn : xs.length ≤ 1048576) (hz : ∀ c ∈ xs, c.Name.size ≤ 1048576) : call code (k + 6) 56 [.rd true (rws GHead.enc xs), .agg [.int .i64 te, .int .i64 ts]] [] = some ⟨.bool (headsA te ts xs && decide ((xs.length : Int) ≤ 16)), [], []⟩ := by
  refine call_run rfl fn56 rfl ?_
  simp [F56]
  refine RunC_loop (fun i : Nat => ⟨tm 67 [(0, .rd true (rws GHead.enc xs)), (3, .ptr 0 0 0 [] 0 0), (5, .int .i64 i)], [(0, some ⟨0, 2, true, false, [[.int .i64 te, .int .i64 ts]]⟩)], []⟩)
    (fun i => i ≤ xs.length ∧ ∀ j, j < i → okH te ts xs j = true) (fun i => xs.length - i) 0 ⟨by omega, by omega⟩ (by simp; omega) (by simp [tm]) fun i hi _ => ?_
  obtain ⟨hi, h0⟩ := hi
  have hrl := rws_len (enc := GHead.enc) xs
  by_cases hlt0 : 16 < i
  · have e : (headsA te ts xs && decide ((xs.length : Int) ≤ 16)) = false := by rw [show decide ((xs.length : Int) ≤ 16) = false from decide_eq_false (by omega)]; simp
    have d1 : ¬ (i : Int) ≤ 16 := by omega
    have d2 : ¬ (xs.length : Int) ≤ 16 := by omega
    have d3 : ¬ i ≤ 16 := by omega
    have d4 : ¬ xs.length ≤ 16 := by omega
    rw [e]
    by_cases hlt : i < xs.length <;> simp [tm, hlt, hrl, d1, d2, d3, d4]
  have d1 : (i : Int) ≤ 16 := by omega
  by_cases hlt : i < xs.length
  · have hs' := idx_succ' hlt (by omega)
    have hg : ∀ hh, (rws GHead.enc xs)[i]'hh = GHead.enc xs[i] := fun hh => rws_get ..
    have next : okH te ts xs i = true → ∃ a, (a ≤ xs.length ∧ ∀ j, j < a → okH te ts xs j = true) ∧ xs.length - a < xs.length - i ∧ ((i + 1 : Nat) : Int) = (a : Int) := fun h => ⟨i + 1, ⟨by omega, fun j hj => by
      rcases Nat.lt_succ_iff_lt_or_eq.1 hj with h1 | rfl
      · exact h0 j h1
      · exact h⟩, by omega, rfl⟩
    have stop : okH te ts xs i = false → (headsA te ts xs && decide ((xs.length : Int) ≤ 16)) = false := fun h => by unfold headsA; rw [range_false hlt h]; rfl
    have e0 : i = 0 → okH te ts xs i = hdB te ts xs[i] := fun h => by subst h; exact okH_zero hlt
    have e1 : 0 < i → okH te ts xs i = (hdB te ts xs[i] && ltN (xs[i - 1]'(by omega)).Name xs[i].Name) := fun h => okH_succ hlt h
    have hg2 : 0 < i → ∀ hh, (rws GHead.enc xs)[i - 1]'hh = GHead.enc (xs[i - 1]'(by omega)) := fun _ hh => rws_get ..
    have w1 : 0 < i → IntKind.wrap .i64 ((i : Int) - 1) = ((i - 1 : Nat) : Int) := fun _ => by rw [wrap64 ⟨by omega, by omega⟩]; omega
    have hi1 : i - 1 < xs.length := by omega
    unfold hdB at e0 e1
    have k1 := fun k => specNameOk k xs[i].Name (hz _ (List.getElem_mem hlt))
    have k2 := fun k => l17Full k xs[i].Ver_Epoch xs[i].Ver_Seq
    have k3 := fun k => verLessS k te ts xs[i].Ver_Epoch xs[i].Ver_Seq
    have k4 := fun k => l00In k xs[i].Size 0 64
    have k5 := fun k => l17Sum k xs[i].Sum
    unfold upB sizeB at e0 e1
    unfold ltN at e1
    simp only [GHead.enc] at hg hg2
    rcases Nat.eq_zero_or_pos i with hz0 | hi0
    · have e := e0 hz0
      subst hz0
      have w01 : IntKind.wrap .i64 1 = 1 := wrap64 ⟨by omega, by omega⟩
      cases c0 : nameB xs[0].Name
      · rw [c0] at k1
        have hst := stop (by rw [e]; simp [c0])
        simp [tm, hlt, d1, hg, storeM, rcall78, rcall85, rcall59, rcall54, rcall80, k1, hst]
      rw [c0] at k1
      cases c1 : fullB xs[0].Ver_Epoch xs[0].Ver_Seq
      · rw [c1] at k2
        have hst := stop (by rw [e]; simp [c0, c1])
        simp [tm, hlt, d1, hg, storeM, rcall78, rcall85, rcall59, rcall54, rcall80, k1, k2, hst]
      rw [c1] at k2
      cases c2 : lessB te ts xs[0].Ver_Epoch xs[0].Ver_Seq
      rotate_left
      · rw [c2] at k3
        have hst := stop (by rw [e]; simp [c0, c1, c2])
        simp [tm, hlt, d1, hg, storeM, rcall78, rcall85, rcall59, rcall54, rcall80, k1, k2, k3, hst]
      rw [c2] at k3
      cases c3 : inB xs[0].Size 0 64
      · rw [c3] at k4
        have hst := stop (by rw [e]; simp [c0, c1, c2, c3])
        simp [tm, hlt, d1, hg, storeM, rcall78, rcall85, rcall59, rcall54, rcall80, k1, k2, k3, k4, hst]
      rw [c3] at k4
      cases c4 : sumB xs[0].Sum
      · rw [c4] at k5
        have hst := stop (by rw [e]; simp [c0, c1, c2, c3, c4])
        simp [tm, hlt, d1, hg, storeM, rcall78, rcall85, rcall59, rcall54, rcall80, k1, k2, k3, k4, k5, hst]
      rw [c4] at k5
      have hnx := next (by rw [e]; simp [c0, c1, c2, c3, c4])
      simp [tm, hlt, d1, hg, storeM, rcall78, rcall85, rcall59, rcall54, rcall80, k1, k2, k3, k4, k5, w01]
      simpa using hnx
    · have e := e1 hi0
      have hg3 := hg2 hi0
      have w2 := w1 hi0
      cases c0 : nameB xs[i].Name
      · rw [c0] at k1
        have hst := stop (by rw [e]; simp [c0])
        simp [tm, hlt, d1, hg, hg3, w2, hi0, hi1, hrl, storeM, rcall78, rcall85, rcall59, rcall54, rcall80, k1, hst]
      rw [c0] at k1
      cases c1 : Op.bytesLess (xs[i - 1]'(by omega)).Name.toList xs[i].Name.toList
      · skip
        have hst := stop (by rw [e]; simp [c0, c1])
        simp [tm, hlt, d1, hg, hg3, w2, hi0, hi1, hrl, storeM, rcall78, rcall85, rcall59, rcall54, rcall80, k1, c1, hst]
      skip
      cases c2 : fullB xs[i].Ver_Epoch xs[i].Ver_Seq
      · rw [c2] at k2
        have hst := stop (by rw [e]; simp [c0, c1, c2])
        simp [tm, hlt, d1, hg, hg3, w2, hi0, hi1, hrl, storeM, rcall78, rcall85, rcall59, rcall54, rcall80, k1, c1, k2, hst]
      rw [c2] at k2
      cases c3 : lessB te ts xs[i].Ver_Epoch xs[i].Ver_Seq
      rotate_left
      · rw [c3] at k3
        have hst := stop (by rw [e]; simp [c0, c1, c2, c3])
        simp [tm, hlt, d1, hg, hg3, w2, hi0, hi1, hrl, storeM, rcall78, rcall85, rcall59, rcall54, rcall80, k1, c1, k2, k3, hst]
      rw [c3] at k3
      cases c4 : inB xs[i].Size 0 64
      · rw [c4] at k4
        have hst := stop (by rw [e]; simp [c0, c1, c2, c3, c4])
        simp [tm, hlt, d1, hg, hg3, w2, hi0, hi1, hrl, storeM, rcall78, rcall85, rcall59, rcall54, rcall80, k1, c1, k2, k3, k4, hst]
      rw [c4] at k4
      cases c5 : sumB xs[i].Sum
      · rw [c5] at k5
        have hst := stop (by rw [e]; simp [c0, c1, c2, c3, c4, c5])
        simp [tm, hlt, d1, hg, hg3, w2, hi0, hi1, hrl, storeM, rcall78, rcall85, rcall59, rcall54, rcall80, k1, c1, k2, k3, k4, k5, hst]
      rw [c5] at k5
      have hnx := next (by rw [e]; simp [c0, c1, c2, c3, c4, c5])
      simp [tm, hlt, d1, hg, hg3, w2, hi0, hi1, hrl, storeM, rcall78, rcall85, rcall59, rcall54, rcall80, k1, c1, k2, k3, k4, k5, hs']
      simpa using hnx
  · have : i = xs.length := by omega
    subst this
    have e : headsA te ts xs = true := range_all.2 h0
    rw [e, Bool.true_and]
    simp [tm, d1, hrl]
set_option maxRecDepth 100000 in
set_option maxHeartbeats 32000000 in
theorem l17Lasts (k : Nat) (te ts : Int) (xs : List GLast) (hn : xs.length ≤ 1048576) : call code (k + 6) 57 [.rd true (rws GLast.enc xs), .agg [.int .i64 te, .int .i64 ts]] [] = some ⟨.bool (lastsA te ts xs && decide ((xs.length : Int) ≤ 6)), [], []⟩ := by
  refine call_run rfl fn57 rfl ?_
  simp [F57]
  refine RunC_loop (fun i : Nat => ⟨tm 61 [(0, .rd true (rws GLast.enc xs)), (3, .ptr 0 0 0 [] 0 0), (5, .int .i64 i)], [(0, some ⟨0, 2, true, false, [[.int .i64 te, .int .i64 ts]]⟩)], []⟩)
    (fun i => i ≤ xs.length ∧ ∀ j, j < i → okL te ts xs j = true) (fun i => xs.length - i) 0 ⟨by omega, by omega⟩ (by simp; omega) (by simp [tm]) fun i hi _ => ?_
  obtain ⟨hi, h0⟩ := hi
  have hrl := rws_len (enc := GLast.enc) xs
  by_cases hlt0 : 6 < i
  · have e : (lastsA te ts xs && decide ((xs.length : Int) ≤ 6)) = false := by rw [show decide ((xs.length : Int) ≤ 6) = false from decide_eq_false (by omega)]; simp
    have d1 : ¬ (i : Int) ≤ 6 := by omega
    have d2 : ¬ (xs.length : Int) ≤ 6 := by omega
    have d3 : ¬ i ≤ 6 := by omega
    have d4 : ¬ xs.length ≤ 6 := by omega
    rw [e]
    by_cases hlt : i < xs.length <;> simp [tm, hlt, hrl, d1, d2, d3, d4]
  have d1 : (i : Int) ≤ 6 := by omega
  by_cases hlt : i < xs.length
  · have hs' := idx_succ' hlt (by omega)
    have hg : ∀ hh, (rws GLast.enc xs)[i]'hh = GLast.enc xs[i] := fun hh => rws_get ..
    have next : okL te ts xs i = true → ∃ a, (a ≤ xs.length ∧ ∀ j, j < a → okL te ts xs j = true) ∧ xs.length - a < xs.length - i ∧ ((i + 1 : Nat) : Int) = (a : Int) := fun h => ⟨i + 1, ⟨by omega, fun j hj => by
      rcases Nat.lt_succ_iff_lt_or_eq.1 hj with h1 | rfl
      · exact h0 j h1
      · exact h⟩, by omega, rfl⟩
    have stop : okL te ts xs i = false → (lastsA te ts xs && decide ((xs.length : Int) ≤ 6)) = false := fun h => by unfold lastsA; rw [range_false hlt h]; rfl
    have e0 : i = 0 → okL te ts xs i = ltL te ts xs[i] := fun h => by subst h; exact okL_zero hlt
    have e1 : 0 < i → okL te ts xs i = (ltL te ts xs[i] && decide ((xs[i - 1]'(by omega)).Client < xs[i].Client)) := fun h => okL_succ hlt h
    have hg2 : 0 < i → ∀ hh, (rws GLast.enc xs)[i - 1]'hh = GLast.enc (xs[i - 1]'(by omega)) := fun _ hh => rws_get ..
    have w1 : 0 < i → IntKind.wrap .i64 ((i : Int) - 1) = ((i - 1 : Nat) : Int) := fun _ => by rw [wrap64 ⟨by omega, by omega⟩]; omega
    have hi1 : i - 1 < xs.length := by omega
    unfold ltL at e0 e1
    have k1 := fun k => l17Client k xs[i].Client
    have k2 := fun k => l17Full k xs[i].Ver_Epoch xs[i].Ver_Seq
    have k3 := fun k => verLessS k te ts xs[i].Ver_Epoch xs[i].Ver_Seq
    have k4 := fun k => l00In k xs[i].No 1 1000
    unfold upB at e0 e1
    simp only [GLast.enc] at hg hg2
    rcases Nat.eq_zero_or_pos i with hz0 | hi0
    · have e := e0 hz0
      subst hz0
      have w01 : IntKind.wrap .i64 1 = 1 := wrap64 ⟨by omega, by omega⟩
      cases c0 : cliB xs[0].Client
      · rw [c0] at k1
        have hst := stop (by rw [e]; simp [c0])
        simp [tm, hlt, d1, hg, storeM, rcall86, rcall85, rcall59, rcall54, k1, hst]
      rw [c0] at k1
      cases c1 : inB xs[0].No 1 1000
      · rw [c1] at k4
        have hst := stop (by rw [e]; simp [c0, c1])
        simp [tm, hlt, d1, hg, storeM, rcall86, rcall85, rcall59, rcall54, k1, k4, hst]
      rw [c1] at k4
      cases c2 : fullB xs[0].Ver_Epoch xs[0].Ver_Seq
      · rw [c2] at k2
        have hst := stop (by rw [e]; simp [c0, c1, c2])
        simp [tm, hlt, d1, hg, storeM, rcall86, rcall85, rcall59, rcall54, k1, k4, k2, hst]
      rw [c2] at k2
      cases c3 : lessB te ts xs[0].Ver_Epoch xs[0].Ver_Seq
      rotate_left
      · rw [c3] at k3
        have hst := stop (by rw [e]; simp [c0, c1, c2, c3])
        simp [tm, hlt, d1, hg, storeM, rcall86, rcall85, rcall59, rcall54, k1, k4, k2, k3, hst]
      rw [c3] at k3
      have hnx := next (by rw [e]; simp [c0, c1, c2, c3])
      simp [tm, hlt, d1, hg, storeM, rcall86, rcall85, rcall59, rcall54, k1, k4, k2, k3, w01]
      simpa using hnx
    · have e := e1 hi0
      have hg3 := hg2 hi0
      have w2 := w1 hi0
      have hge : decide (xs[i].Client ≤ (xs[i - 1]'(by omega)).Client) = !decide ((xs[i - 1]'(by omega)).Client < xs[i].Client) := by
        by_cases h : (xs[i - 1]'(by omega)).Client < xs[i].Client
        · have : ¬ xs[i].Client ≤ (xs[i - 1]'(by omega)).Client := by omega
          simp [h, this]
        · have : xs[i].Client ≤ (xs[i - 1]'(by omega)).Client := by omega
          simp [h, this]
      cases c0 : cliB xs[i].Client
      · rw [c0] at k1
        have hst := stop (by rw [e]; simp [c0])
        simp [tm, hlt, d1, hg, hg3, w2, hi0, hi1, hrl, storeM, rcall86, rcall85, rcall59, rcall54, k1, hst]
      rw [c0] at k1
      cases c1 : decide ((xs[i - 1]'(by omega)).Client < xs[i].Client)
      · rw [c1] at hge
        have hst := stop (by rw [e]; simp [c0, c1])
        simp [tm, hlt, d1, hg, hg3, w2, hi0, hi1, hrl, storeM, rcall86, rcall85, rcall59, rcall54, k1, hge, hst]
      rw [c1] at hge
      cases c2 : inB xs[i].No 1 1000
      · rw [c2] at k4
        have hst := stop (by rw [e]; simp [c0, c1, c2])
        simp [tm, hlt, d1, hg, hg3, w2, hi0, hi1, hrl, storeM, rcall86, rcall85, rcall59, rcall54, k1, hge, k4, hst]
      rw [c2] at k4
      cases c3 : fullB xs[i].Ver_Epoch xs[i].Ver_Seq
      · rw [c3] at k2
        have hst := stop (by rw [e]; simp [c0, c1, c2, c3])
        simp [tm, hlt, d1, hg, hg3, w2, hi0, hi1, hrl, storeM, rcall86, rcall85, rcall59, rcall54, k1, hge, k4, k2, hst]
      rw [c3] at k2
      cases c4 : lessB te ts xs[i].Ver_Epoch xs[i].Ver_Seq
      rotate_left
      · rw [c4] at k3
        have hst := stop (by rw [e]; simp [c0, c1, c2, c3, c4])
        simp [tm, hlt, d1, hg, hg3, w2, hi0, hi1, hrl, storeM, rcall86, rcall85, rcall59, rcall54, k1, hge, k4, k2, k3, hst]
      rw [c4] at k3
      have hnx := next (by rw [e]; simp [c0, c1, c2, c3, c4])
      simp [tm, hlt, d1, hg, hg3, w2, hi0, hi1, hrl, storeM, rcall86, rcall85, rcall59, rcall54, k1, hge, k4, k2, k3, hs']
      simpa using hnx
  · have : i = xs.length := by omega
    subst this
    have e : lastsA te ts xs = true := range_all.2 h0
    rw [e, Bool.true_and]
    simp [tm, d1, hrl]
end Go.Ae.GA
namespace Go.Ae.GA
set_option linter.unusedSimpArgs false
set_option linter.unusedVariables false
def baseB (te ts : Int) (hs : List GHead) (ls : List GLast) : Bool := headsA te ts hs && (lastsA te ts ls && (decide ((hs.length : Int) ≤ 16) && decide ((ls.length : Int) ≤ 6)))
set_option maxRecDepth 100000 in
set_option maxHeartbeats 64000000 in
theorem baseOk (k : Nat) (p0 p1 se st te ts : Int) (xs : List GHead) (ys : List GLast) (es : List GEntry) (fe fs : Int) (cs : List GChunk) (hn : xs.length ≤ 1048576) (hn2 : ys.length ≤ 1048576) (hz : ∀ c ∈ xs, c.Name.size ≤ 1048576) : call code (k + 6) 67 [psV p0 p1 se st te ts xs ys es fe fs cs] [] = some ⟨.bool (baseB te ts xs ys), [], []⟩ := by
  refine call_run rfl fn67 rfl ?_
  have up := fun k e s => upToTail k p0 p1 se st te ts xs ys es fe fs cs e s
  have hrl := rws_len (enc := GHead.enc) xs
  have hrl2 := rws_len (enc := GLast.enc) ys
  have hgx : ∀ i (hi : i < xs.length) (hh : i < (rws GHead.enc xs).length), (rws GHead.enc xs)[i]'hh = GHead.enc xs[i] := fun i hi hh => rws_get ..
  have hgy : ∀ i (hi : i < ys.length) (hh : i < (rws GLast.enc ys).length), (rws GLast.enc ys)[i]'hh = GLast.enc ys[i] := fun i hi hh => rws_get ..
  unfold psV at *
  generalize rws GHead.enc xs = HS at *
  generalize rws GLast.enc ys = LS at *
  generalize rws GEntry.enc es = ES at *
  generalize rws GChunk.enc cs = CS at *
  simp [F67]
  refine RunC_loop (fun i : Nat => ⟨tm 107 [(1, .ptr 0 0 0 [] 0 0), (9, .rd true HS), (10, .int .i64 xs.length), (11, .int .i64 i)], [(0, some ⟨0, 12, true, false, [[.int .i64 p0, .int .i64 p1, .int .i64 se, .int .i64 st, .int .i64 te, .int .i64 ts, .rd true HS, .rd true LS, .rd true ES, .int .i64 fe, .int .i64 fs, .rd true CS]]⟩)], []⟩)
    (fun i => i ≤ xs.length ∧ ∀ j, j < i → okH te ts xs j = true) (fun i => xs.length - i) 0 ⟨by omega, by omega⟩ (by simp; omega) (by simp [tm, hrl]) fun i hi _ => ?_
  obtain ⟨hi, h0⟩ := hi
  by_cases hlt : i < xs.length
  · have hs' := idx_succ' hlt (by omega)
    have hg := hgx i hlt
    have next : okH te ts xs i = true → ∃ a, (a ≤ xs.length ∧ ∀ j, j < a → okH te ts xs j = true) ∧ xs.length - a < xs.length - i ∧ ((i + 1 : Nat) : Int) = (a : Int) := fun h => ⟨i + 1, ⟨by omega, fun j hj => by
      rcases Nat.lt_succ_iff_lt_or_eq.1 hj with h1 | rfl
      · exact h0 j h1
      · exact h⟩, by omega, rfl⟩
    have stop : okH te ts xs i = false → baseB te ts xs ys = false := fun h => by unfold baseB headsA; rw [range_false hlt h]; rfl
    have e0 : i = 0 → okH te ts xs i = hdB te ts xs[i] := fun h => by subst h; exact okH_zero hlt
    have e1 : 0 < i → okH te ts xs i = (hdB te ts xs[i] && ltN (xs[i - 1]'(by omega)).Name xs[i].Name) := fun h => okH_succ hlt h
    have w1 : 0 < i → IntKind.wrap .i64 ((i : Int) - 1) = ((i - 1 : Nat) : Int) := fun _ => by rw [wrap64 ⟨by omega, by omega⟩]; omega
    have hi1 : i - 1 < xs.length := by omega
    have hg2 := hgx (i - 1) hi1
    unfold hdB at e0 e1
    unfold ltN at e1
    have k1 := fun k => implNameOk k xs[i].Name (hz _ (List.getElem_mem hlt))
    have k2 := fun k => up k xs[i].Ver_Epoch xs[i].Ver_Seq
    have k3 := fun k => sizeOk k xs[i].Size xs[i].Sum
    simp only [GHead.enc] at hg hg2
    rcases Nat.eq_zero_or_pos i with hz0 | hi0
    · have e := e0 hz0
      subst hz0
      have hq := List.getElem?_eq_getElem (l := HS) (i := 0) (by omega)
      rw [hg] at hq
      have w01 : IntKind.wrap .i64 1 = 1 := wrap64 ⟨by omega, by omega⟩
      cases c0 : nameB xs[0].Name
      · rw [c0] at k1
        have hst := stop (by rw [e]; simp [c0])
        simp [tm, hlt, hq, storeM, rcall81, rcall89, rcall83, k1, hst]
      rw [c0] at k1
      cases c1 : upB te ts xs[0].Ver_Epoch xs[0].Ver_Seq
      · rw [c1] at k2
        have hst := stop (by rw [e]; simp [c0, c1])
        simp [tm, hlt, hq, storeM, rcall81, rcall89, rcall83, k1, k2, hst]
      rw [c1] at k2
      cases c2 : sizeB xs[0].Size xs[0].Sum
      · rw [c2] at k3
        have hst := stop (by rw [e]; simp [c0, c1, c2])
        simp [tm, hlt, hq, storeM, rcall81, rcall89, rcall83, k1, k2, k3, hst]
      rw [c2] at k3
      have hnx := next (by rw [e]; simp [c0, c1, c2])
      simp [tm, hlt, hq, storeM, rcall81, rcall89, rcall83, k1, k2, k3, w01]
      simpa using hnx
    · have e := e1 hi0
      have w2 := w1 hi0
      have hle := bl_le xs[i].Name.toList (xs[i - 1]'(by omega)).Name.toList
      cases c0 : nameB xs[i].Name
      · rw [c0] at k1
        have hst := stop (by rw [e]; simp [c0])
        simp [tm, hlt, hg, hg2, w2, hi0, hi1, hrl, storeM, rcall81, rcall89, rcall83, k1, hst]
      rw [c0] at k1
      cases c1 : upB te ts xs[i].Ver_Epoch xs[i].Ver_Seq
      · rw [c1] at k2
        have hst := stop (by rw [e]; simp [c0, c1])
        simp [tm, hlt, hg, hg2, w2, hi0, hi1, hrl, storeM, rcall81, rcall89, rcall83, k1, k2, hst]
      rw [c1] at k2
      cases c2 : sizeB xs[i].Size xs[i].Sum
      · rw [c2] at k3
        have hst := stop (by rw [e]; simp [c0, c1, c2])
        simp [tm, hlt, hg, hg2, w2, hi0, hi1, hrl, storeM, rcall81, rcall89, rcall83, k1, k2, k3, hst]
      rw [c2] at k3
      cases c3 : Op.bytesLess (xs[i - 1]'(by omega)).Name.toList xs[i].Name.toList
      · rw [c3] at hle
        have hst := stop (by rw [e]; simp [c0, c1, c2, c3])
        simp [tm, hlt, hg, hg2, w2, hi0, hi1, hrl, storeM, rcall81, rcall89, rcall83, k1, k2, k3, hle, hst]
      rw [c3] at hle
      have hnx := next (by rw [e]; simp [c0, c1, c2, c3])
      simp [tm, hlt, hg, hg2, w2, hi0, hi1, hrl, storeM, rcall81, rcall89, rcall83, k1, k2, k3, hle, hs']
      simpa using hnx
  · have : i = xs.length := by omega
    subst this
    have eh : headsA te ts xs = true := range_all.2 h0
    unfold baseB
    rw [eh, Bool.true_and]
    simp [tm]
    refine RunC_loop (fun i : Nat => ⟨tm 107 [(1, .ptr 0 0 0 [] 0 0), (53, .rd true LS), (54, .int .i64 ys.length), (55, .int .i64 i)], [(0, some ⟨0, 12, true, false, [[.int .i64 p0, .int .i64 p1, .int .i64 se, .int .i64 st, .int .i64 te, .int .i64 ts, .rd true HS, .rd true LS, .rd true ES, .int .i64 fe, .int .i64 fs, .rd true CS]]⟩)], []⟩)
      (fun i => i ≤ ys.length ∧ ∀ j, j < i → okL te ts ys j = true) (fun i => ys.length - i) 0 ⟨by omega, by omega⟩ (by simp; omega) (by simp [tm, hrl2]) fun i hi _ => ?_
    obtain ⟨hi, h0⟩ := hi
    by_cases hlt : i < ys.length
    · have hs' := idx_succ' hlt (by omega)
      have hg := hgy i hlt
      have next : okL te ts ys i = true → ∃ a, (a ≤ ys.length ∧ ∀ j, j < a → okL te ts ys j = true) ∧ ys.length - a < ys.length - i ∧ ((i + 1 : Nat) : Int) = (a : Int) := fun h => ⟨i + 1, ⟨by omega, fun j hj => by
        rcases Nat.lt_succ_iff_lt_or_eq.1 hj with h1 | rfl
        · exact h0 j h1
        · exact h⟩, by omega, rfl⟩
      have stop : okL te ts ys i = false → (lastsA te ts ys && (decide ((xs.length : Int) ≤ 16) && decide ((ys.length : Int) ≤ 6))) = false := fun h => by unfold lastsA; rw [range_false hlt h]; rfl
      have e0 : i = 0 → okL te ts ys i = ltL te ts ys[i] := fun h => by subst h; exact okL_zero hlt
      have e1 : 0 < i → okL te ts ys i = (ltL te ts ys[i] && decide ((ys[i - 1]'(by omega)).Client < ys[i].Client)) := fun h => okL_succ hlt h
      have w1 : 0 < i → IntKind.wrap .i64 ((i : Int) - 1) = ((i - 1 : Nat) : Int) := fun _ => by rw [wrap64 ⟨by omega, by omega⟩]; omega
      have hi1 : i - 1 < ys.length := by omega
      have hg2 := hgy (i - 1) hi1
      unfold ltL at e0 e1
      rw [← cli_req] at e0 e1
      have k1 := fun k => reqOk k ys[i].Client ys[i].No
      have k2 := fun k => up k ys[i].Ver_Epoch ys[i].Ver_Seq
      simp only [GLast.enc] at hg hg2
      rcases Nat.eq_zero_or_pos i with hz0 | hi0
      · have e := e0 hz0
        subst hz0
        have hq := List.getElem?_eq_getElem (l := LS) (i := 0) (by omega)
        rw [hg] at hq
        have w01 : IntKind.wrap .i64 1 = 1 := wrap64 ⟨by omega, by omega⟩
        cases c0 : reqB ys[0].Client ys[0].No
        · rw [c0] at k1
          have hst := stop (by rw [e]; simp [c0])
          simp [tm, hlt, hq, storeM, rcall82, rcall89, k1, hst]
        rw [c0] at k1
        cases c1 : (ys[0].Client == 0 && ys[0].No == 0)
        rotate_left
        · skip
          have hst := stop (by rw [e]; simp [c0, c1])
          simp [tm, hlt, hq, storeM, rcall82, rcall89, k1, c1, hst]
        skip
        cases c2 : upB te ts ys[0].Ver_Epoch ys[0].Ver_Seq
        · rw [c2] at k2
          have hst := stop (by rw [e]; simp [c0, c1, c2])
          simp [tm, hlt, hq, storeM, rcall82, rcall89, k1, c1, k2, hst]
        rw [c2] at k2
        have hnx := next (by rw [e]; simp [c0, c1, c2])
        simp [tm, hlt, hq, storeM, rcall82, rcall89, k1, c1, k2, w01]
        simpa using hnx
      · have e := e1 hi0
        have w2 := w1 hi0
        have hge : decide (ys[i].Client ≤ (ys[i - 1]'(by omega)).Client) = !decide ((ys[i - 1]'(by omega)).Client < ys[i].Client) := by
          by_cases h : (ys[i - 1]'(by omega)).Client < ys[i].Client
          · have : ¬ ys[i].Client ≤ (ys[i - 1]'(by omega)).Client := by omega
            simp [h, this]
          · have : ys[i].Client ≤ (ys[i - 1]'(by omega)).Client := by omega
            simp [h, this]
        cases c0 : reqB ys[i].Client ys[i].No
        · rw [c0] at k1
          have hst := stop (by rw [e]; simp [c0])
          simp [tm, hlt, hg, hg2, w2, hi0, hi1, hrl2, storeM, rcall82, rcall89, k1, hst]
        rw [c0] at k1
        cases c1 : (ys[i].Client == 0 && ys[i].No == 0)
        rotate_left
        · skip
          have hst := stop (by rw [e]; simp [c0, c1])
          simp [tm, hlt, hg, hg2, w2, hi0, hi1, hrl2, storeM, rcall82, rcall89, k1, c1, hst]
        skip
        cases c2 : upB te ts ys[i].Ver_Epoch ys[i].Ver_Seq
        · rw [c2] at k2
          have hst := stop (by rw [e]; simp [c0, c1, c2])
          simp [tm, hlt, hg, hg2, w2, hi0, hi1, hrl2, storeM, rcall82, rcall89, k1, c1, k2, hst]
        rw [c2] at k2
        cases c3 : decide ((ys[i - 1]'(by omega)).Client < ys[i].Client)
        · rw [c3] at hge
          have hst := stop (by rw [e]; simp [c0, c1, c2, c3])
          simp [tm, hlt, hg, hg2, w2, hi0, hi1, hrl2, storeM, rcall82, rcall89, k1, c1, k2, hge, hst]
        rw [c3] at hge
        have hnx := next (by rw [e]; simp [c0, c1, c2, c3])
        simp [tm, hlt, hg, hg2, w2, hi0, hi1, hrl2, storeM, rcall82, rcall89, k1, c1, k2, hge, hs']
        simpa using hnx
    · have : i = ys.length := by omega
      subst this
      have el : lastsA te ts ys = true := range_all.2 h0
      rw [el, Bool.true_and]
      cases c1 : decide ((xs.length : Int) ≤ 16) <;> simp [tm, hrl, hrl2, c1]
end Go.Ae.GA
