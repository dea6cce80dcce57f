/- Heads and last requests: the program's. -/
import Derived.Test.YtiabjkihebhfkaaGreatHCHI
namespace Go.Ae.GA.B
set_option linter.unusedSimpArgs false
set_option linter.unusedVariables false
def baseB (te ts : Int) (hs : List GHead) (ls : List GLast) : Bool := headsA te ts hs && (lastsA te ts ls && (decide ((hs.length : Int) ≤ 16) && decide ((ls.length : Int) ≤ 6)))
set_option maxRecDepth 100000 in
set_option maxHeartbeats 64000000 in
theorem baseOk (k : Nat) (p0 p1 se st te ts : Int) (xs : List GHead) (ys : List GLast) (es : List GEntry) (fe fs : Int) (cs : List GChunk) (hn : xs.length ≤ 1048576) (hn2 : ys.length ≤ 1048576) (hz : ∀ c ∈ xs, c.Name.size ≤ 1048576) : call code (k + 6) 144 [psV p0 p1 se st te ts xs ys es fe fs cs] [] = some ⟨.bool (baseB te ts xs ys), [], []⟩ := by
  refine call_run rfl fn144 rfl ?_
  have up := fun k e s => upToTail k p0 p1 se st te ts xs ys es fe fs cs e s
  have hrl := rws_len (enc := GHead.enc) xs
  have hrl2 := rws_len (enc := GLast.enc) ys
  have hgx : ∀ i (hi : i < xs.length) (hh : i < (rws GHead.enc xs).length), (rws GHead.enc xs)[i]'hh = GHead.enc xs[i] := fun i hi hh => rws_get ..
  have hgy : ∀ i (hi : i < ys.length) (hh : i < (rws GLast.enc ys).length), (rws GLast.enc ys)[i]'hh = GLast.enc ys[i] := fun i hi hh => rws_get ..
  unfold psV at *
  generalize rws GHead.enc xs = HS at *
  generalize rws GLast.enc ys = LS at *
  generalize rws GEntry.enc es = ES at *
  generalize rws GChunk.enc cs = CS at *
  simp [F144]
  refine RunC_loop (fun i : Nat => ⟨tm 107 [(1, .ptr 0 0 0 [] 0 0), (9, .rd true HS), (10, .int .i64 xs.length), (11, .int .i64 i)], [(0, some ⟨0, 12, true, false, [[.int .i64 p0, .int .i64 p1, .int .i64 se, .int .i64 st, .int .i64 te, .int .i64 ts, .rd true HS, .rd true LS, .rd true ES, .int .i64 fe, .int .i64 fs, .rd true CS]]⟩)], []⟩)
    (fun i => i ≤ xs.length ∧ ∀ j, j < i → okH te ts xs j = true) (fun i => xs.length - i) 0 ⟨by omega, by omega⟩ (by simp; omega) (by simp [tm, hrl]) fun i hi _ => ?_
  obtain ⟨hi, h0⟩ := hi
  by_cases hlt : i < xs.length
  · have hs' := idx_succ' hlt (by omega)
    have hg := hgx i hlt
    have next : okH te ts xs i = true → ∃ a, (a ≤ xs.length ∧ ∀ j, j < a → okH te ts xs j = true) ∧ xs.length - a < xs.length - i ∧ ((i + 1 : Nat) : Int) = (a : Int) := fun h => ⟨i + 1, ⟨by omega, fun j hj => by
      rcases Nat.lt_succ_iff_lt_or_eq.1 hj with h1 | rfl
      · exact h0 j h1
      · exact h⟩, by omega, rfl⟩
    have stop : okH te ts xs i = false → baseB te ts xs ys = false := fun h => by unfold baseB headsA; rw [range_false hlt h]; rfl
    have e0 : i = 0 → okH te ts xs i = hdB te ts xs[i] := fun h => by subst h; exact okH_zero hlt
    have e1 : 0 < i → okH te ts xs i = (hdB te ts xs[i] && ltN (xs[i - 1]'(by omega)).Name xs[i].Name) := fun h => okH_succ hlt h
    have w1 : 0 < i → IntKind.wrap .i64 ((i : Int) - 1) = ((i - 1 : Nat) : Int) := fun _ => by rw [wrap64 ⟨by omega, by omega⟩]; omega
    have hi1 : i - 1 < xs.length := by omega
    have hg2 := hgx (i - 1) hi1
    unfold hdB at e0 e1
    unfold ltN at e1
    have k1 := fun k => implNameOk k xs[i].Name (hz _ (List.getElem_mem hlt))
    have k2 := fun k => up k xs[i].Ver_Epoch xs[i].Ver_Seq
    have k3 := fun k => sizeOk k xs[i].Size xs[i].Sum
    simp only [GHead.enc] at hg hg2
    rcases Nat.eq_zero_or_pos i with hz0 | hi0
    · have e := e0 hz0
      subst hz0
      have hq := List.getElem?_eq_getElem (l := HS) (i := 0) (by omega)
      rw [hg] at hq
      have w01 : IntKind.wrap .i64 1 = 1 := wrap64 ⟨by omega, by omega⟩
      cases c0 : nameB xs[0].Name
      · rw [c0] at k1
        have hst := stop (by rw [e]; simp [c0])
        simp [tm, hlt, hq, storeM, rcall161, rcall207, rcall177, k1, hst]
      rw [c0] at k1
      cases c1 : upB te ts xs[0].Ver_Epoch xs[0].Ver_Seq
      · rw [c1] at k2
        have hst := stop (by rw [e]; simp [c0, c1])
        simp [tm, hlt, hq, storeM, rcall161, rcall207, rcall177, k1, k2, hst]
      rw [c1] at k2
      cases c2 : sizeB xs[0].Size xs[0].Sum
      · rw [c2] at k3
        have hst := stop (by rw [e]; simp [c0, c1, c2])
        simp [tm, hlt, hq, storeM, rcall161, rcall207, rcall177, k1, k2, k3, hst]
      rw [c2] at k3
      have hnx := next (by rw [e]; simp [c0, c1, c2])
      simp [tm, hlt, hq, storeM, rcall161, rcall207, rcall177, k1, k2, k3, w01]
      simpa using hnx
    · have e := e1 hi0
      have w2 := w1 hi0
      have hle := bl_le xs[i].Name.toList (xs[i - 1]'(by omega)).Name.toList
      cases c0 : nameB xs[i].Name
      · rw [c0] at k1
        have hst := stop (by rw [e]; simp [c0])
        simp [tm, hlt, hg, hg2, w2, hi0, hi1, hrl, storeM, rcall161, rcall207, rcall177, k1, hst]
      rw [c0] at k1
      cases c1 : upB te ts xs[i].Ver_Epoch xs[i].Ver_Seq
      · rw [c1] at k2
        have hst := stop (by rw [e]; simp [c0, c1])
        simp [tm, hlt, hg, hg2, w2, hi0, hi1, hrl, storeM, rcall161, rcall207, rcall177, k1, k2, hst]
      rw [c1] at k2
      cases c2 : sizeB xs[i].Size xs[i].Sum
      · rw [c2] at k3
        have hst := stop (by rw [e]; simp [c0, c1, c2])
        simp [tm, hlt, hg, hg2, w2, hi0, hi1, hrl, storeM, rcall161, rcall207, rcall177, k1, k2, k3, hst]
      rw [c2] at k3
      cases c3 : Op.bytesLess (xs[i - 1]'(by omega)).Name.toList xs[i].Name.toList
      · rw [c3] at hle
        have hst := stop (by rw [e]; simp [c0, c1, c2, c3])
        simp [tm, hlt, hg, hg2, w2, hi0, hi1, hrl, storeM, rcall161, rcall207, rcall177, k1, k2, k3, hle, hst]
      rw [c3] at hle
      have hnx := next (by rw [e]; simp [c0, c1, c2, c3])
      simp [tm, hlt, hg, hg2, w2, hi0, hi1, hrl, storeM, rcall161, rcall207, rcall177, k1, k2, k3, hle, hs']
      simpa using hnx
  · have : i = xs.length := by omega
    subst this
    have eh : headsA te ts xs = true := range_all.2 h0
    unfold baseB
    rw [eh, Bool.true_and]
    simp [tm]
    refine RunC_loop (fun i : Nat => ⟨tm 107 [(1, .ptr 0 0 0 [] 0 0), (53, .rd true LS), (54, .int .i64 ys.length), (55, .int .i64 i)], [(0, some ⟨0, 12, true, false, [[.int .i64 p0, .int .i64 p1, .int .i64 se, .int .i64 st, .int .i64 te, .int .i64 ts, .rd true HS, .rd true LS, .rd true ES, .int .i64 fe, .int .i64 fs, .rd true CS]]⟩)], []⟩)
      (fun i => i ≤ ys.length ∧ ∀ j, j < i → okL te ts ys j = true) (fun i => ys.length - i) 0 ⟨by omega, by omega⟩ (by simp; omega) (by simp [tm, hrl2]) fun i hi _ => ?_
    obtain ⟨hi, h0⟩ := hi
    by_cases hlt : i < ys.length
    · have hs' := idx_succ' hlt (by omega)
      have hg := hgy i hlt
      have next : okL te ts ys i = true → ∃ a, (a ≤ ys.length ∧ ∀ j, j < a → okL te ts ys j = true) ∧ ys.length - a < ys.length - i ∧ ((i + 1 : Nat) : Int) = (a : Int) := fun h => ⟨i + 1, ⟨by omega, fun j hj => by
        rcases Nat.lt_succ_iff_lt_or_eq.1 hj with h1 | rfl
        · exact h0 j h1
        · exact h⟩, by omega, rfl⟩
      have stop : okL te ts ys i = false → (lastsA te ts ys && (decide ((xs.length : Int) ≤ 16) && decide ((ys.length : Int) ≤ 6))) = false := fun h => by unfold lastsA; rw [range_false hlt h]; rfl
      have e0 : i = 0 → okL te ts ys i = ltL te ts ys[i] := fun h => by subst h; exact okL_zero hlt
      have e1 : 0 < i → okL te ts ys i = (ltL te ts ys[i] && decide ((ys[i - 1]'(by omega)).Client < ys[i].Client)) := fun h => okL_succ hlt h
      have w1 : 0 < i → IntKind.wrap .i64 ((i : Int) - 1) = ((i - 1 : Nat) : Int) := fun _ => by rw [wrap64 ⟨by omega, by omega⟩]; omega
      have hi1 : i - 1 < ys.length := by omega
      have hg2 := hgy (i - 1) hi1
      unfold ltL at e0 e1
      rw [← cli_req] at e0 e1
      have k1 := fun k => reqOk k ys[i].Client ys[i].No
      have k2 := fun k => up k ys[i].Ver_Epoch ys[i].Ver_Seq
      simp only [GLast.enc] at hg hg2
      rcases Nat.eq_zero_or_pos i with hz0 | hi0
      · have e := e0 hz0
        subst hz0
        have hq := List.getElem?_eq_getElem (l := LS) (i := 0) (by omega)
        rw [hg] at hq
        have w01 : IntKind.wrap .i64 1 = 1 := wrap64 ⟨by omega, by omega⟩
        cases c0 : reqB ys[0].Client ys[0].No
        · rw [c0] at k1
          have hst := stop (by rw [e]; simp [c0])
          simp [tm, hlt, hq, storeM, rcall176, rcall207, k1, hst]
        rw [c0] at k1
        cases c1 : (ys[0].Client == 0 && ys[0].No == 0)
        rotate_left
        · skip
          have hst := stop (by rw [e]; simp [c0, c1])
          simp [tm, hlt, hq, storeM, rcall176, rcall207, k1, c1, hst]
        skip
        cases c2 : upB te ts ys[0].Ver_Epoch ys[0].Ver_Seq
        · rw [c2] at k2
          have hst := stop (by rw [e]; simp [c0, c1, c2])
          simp [tm, hlt, hq, storeM, rcall176, rcall207, k1, c1, k2, hst]
        rw [c2] at k2
        have hnx := next (by rw [e]; simp [c0, c1, c2])
        simp [tm, hlt, hq, storeM, rcall176, rcall207, k1, c1, k2, w01]
        simpa using hnx
      · have e := e1 hi0
        have w2 := w1 hi0
        have hge : decide (ys[i].Client ≤ (ys[i - 1]'(by omega)).Client) = !decide ((ys[i - 1]'(by omega)).Client < ys[i].Client) := by
          by_cases h : (ys[i - 1]'(by omega)).Client < ys[i].Client
          · have : ¬ ys[i].Client ≤ (ys[i - 1]'(by omega)).Client := by omega
            simp [h, this]
          · have : ys[i].Client ≤ (ys[i - 1]'(by omega)).Client := by omega
            simp [h, this]
        cases c0 : reqB ys[i].Client ys[i].No
        · rw [c0] at k1
          have hst := stop (by rw [e]; simp [c0])
          simp [tm, hlt, hg, hg2, w2, hi0, hi1, hrl2, storeM, rcall176, rcall207, k1, hst]
        rw [c0] at k1
        cases c1 : (ys[i].Client == 0 && ys[i].No == 0)
        rotate_left
        · skip
          have hst := stop (by rw [e]; simp [c0, c1])
          simp [tm, hlt, hg, hg2, w2, hi0, hi1, hrl2, storeM, rcall176, rcall207, k1, c1, hst]
        skip
        cases c2 : upB te ts ys[i].Ver_Epoch ys[i].Ver_Seq
        · rw [c2] at k2
          have hst := stop (by rw [e]; simp [c0, c1, c2])
          simp [tm, hlt, hg, hg2, w2, hi0, hi1, hrl2, storeM, rcall176, rcall207, k1, c1, k2, hst]
        rw [c2] at k2
        cases c3 : decide ((ys[i - 1]'(by omega)).Client < ys[i].Client)
        · rw [c3] at hge
          have hst := stop (by rw [e]; simp [c0, c1, c2, c3])
          simp [tm, hlt, hg, hg2, w2, hi0, hi1, hrl2, storeM, rcall176, rcall207, k1, c1, k2, hge, hst]
        rw [c3] at hge
        have hnx := next (by rw [e]; simp [c0, c1, c2, c3])
        simp [tm, hlt, hg, hg2, w2, hi0, hi1, hrl2, storeM, rcall176, rcall207, k1, c1, k2, hge, hs']
        simpa using hnx
    · have : i = ys.length := by omega
      subst this
      have el : lastsA te ts ys = true := range_all.2 h0
      rw [el, Bool.true_and]
      cases c1 : decide ((xs.length : Int) ≤ 16) <;> simp [tm, hrl, hrl2, c1]
end Go.Ae.GA.B
