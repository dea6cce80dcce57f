/- Heads and last requests: what is right of them. -/
import Derived.Test.YtiabjkihebhfkaaGreatHCFG
namespace Go.Ae.GA.B
set_option linter.unusedSimpArgs false
set_option linter.unusedVariables false
theorem bl_le : ∀ a b : List UInt8, (Op.bytesLess a b || a == b) = !Op.bytesLess b a
  | [], [] => rfl
  | [], b :: y => rfl
  | a :: x, [] => rfl
  | a :: x, b :: y => by
    have ih := bl_le x y
    simp only [Op.bytesLess]
    by_cases h1 : a < b
    · have h2 : ¬ b < a := fun h => absurd (UInt8.lt_trans h1 h) (UInt8.lt_irrefl _)
      have h3 : (b == a) = false := by rw [beq_eq_false_iff_ne]; intro h; subst h; exact UInt8.lt_irrefl _ h1
      simp [h1, h2, h3]
    · by_cases h2 : b < a
      · have h3 : (a == b) = false := by rw [beq_eq_false_iff_ne]; intro h; subst h; exact UInt8.lt_irrefl _ h2
        have h4 : ¬ a = b := by simpa using h3
        simp [h1, h2, h4]
      · have h3 : a = b := by
          rw [UInt8.lt_iff_toNat_lt] at h1 h2
          exact UInt8.toNat_inj.1 (by omega)
        subst h3
        simp [UInt8.lt_irrefl] at ih ⊢
        exact ih
/-- A version that is full and not beyond the tail. -/
def upB (te ts e s : Int) : Bool := fullB e s && !lessB te ts e s
def hdB (te ts : Int) (h : GHead) : Bool := nameB h.Name && (upB te ts h.Ver_Epoch h.Ver_Seq && sizeB h.Size h.Sum)
def ltN (a b : ByteArray) : Bool := Op.bytesLess a.toList b.toList
def okH (te ts : Int) (hs : List GHead) (i : Nat) : Bool := match hs[i]? with
  | some h => hdB te ts h && (match i with
    | 0 => true
    | j + 1 => match hs[j]? with
      | some b => ltN b.Name h.Name
      | none => false)
  | none => false
def ltL (te ts : Int) (c : GLast) : Bool := (cliB c.Client && inB c.No 1 1000) && upB te ts c.Ver_Epoch c.Ver_Seq
def okL (te ts : Int) (ls : List GLast) (i : Nat) : Bool := match ls[i]? with
  | some c => ltL te ts c && (match i with
    | 0 => true
    | j + 1 => match ls[j]? with
      | some b => decide (b.Client < c.Client)
      | none => false)
  | none => false
theorem okH_zero {te ts : Int} {hs : List GHead} (h : 0 < hs.length) : okH te ts hs 0 = hdB te ts hs[0] := by
  unfold okH; rw [List.getElem?_eq_getElem h]; simp
theorem okH_succ {te ts : Int} {hs : List GHead} {i : Nat} (h : i < hs.length) (h0 : 0 < i) : okH te ts hs i = (hdB te ts hs[i] && ltN (hs[i - 1]'(by omega)).Name hs[i].Name) := by
  unfold okH
  rw [List.getElem?_eq_getElem h]
  obtain ⟨j, rfl⟩ : ∃ j, i = j + 1 := ⟨i - 1, by omega⟩
  simp [List.getElem?_eq_getElem (show j < hs.length by omega)]
theorem okL_zero {te ts : Int} {ls : List GLast} (h : 0 < ls.length) : okL te ts ls 0 = ltL te ts ls[0] := by
  unfold okL; rw [List.getElem?_eq_getElem h]; simp
theorem okL_succ {te ts : Int} {ls : List GLast} {i : Nat} (h : i < ls.length) (h0 : 0 < i) : okL te ts ls i = (ltL te ts ls[i] && decide ((ls[i - 1]'(by omega)).Client < ls[i].Client)) := by
  unfold okL
  rw [List.getElem?_eq_getElem h]
  obtain ⟨j, rfl⟩ : ∃ j, i = j + 1 := ⟨i - 1, by omega⟩
  simp [List.getElem?_eq_getElem (show j < ls.length by omega)]
def headsA (te ts : Int) (hs : List GHead) : Bool := (List.range hs.length).all (okH te ts hs)
def lastsA (te ts : Int) (ls : List GLast) : Bool := (List.range ls.length).all (okL te ts ls)
set_option maxHeartbeats 4000000 in
theorem upToTail (k : Nat) (p0 p1 se st te ts : Int) (hs : List GHead) (ls : List GLast) (es : List GEntry) (fe fs : Int) (cs : List GChunk) (e s : Int) : call code (k + 5) 207 [psV p0 p1 se st te ts hs ls es fe fs cs, .agg [.int .i64 e, .int .i64 s]] [] = some ⟨.bool (upB te ts e s), [], []⟩ := by
  refine call_run rfl fn207 rfl ?_
  unfold upB fullB
  have h1 := fun k => verOk k e s
  have h2 := fun k => verLess k te ts e s
  cases c1 : verB e s <;> cases c2 : lessB te ts e s <;> cases c3 : e == 0 <;> cases c4 : s == 0 <;> rw [c1] at h1 <;> rw [c2] at h2 <;> simp [F207, rcall143, rcall38, h1, h2, c3, c4]
theorem cli_req (c n : Int) : (reqB c n && !(c == 0 && n == 0)) = (cliB c && inB n 1 1000) := by
  unfold reqB
  cases c1 : (c == 0 && n == 0)
  · simp
  · simp at c1
    obtain ⟨rfl, rfl⟩ := c1
    simp [cliB, inB]
end Go.Ae.GA.B
namespace Go.Ae.GA.B
set_option linter.unusedSimpArgs false
set_option linter.unusedVariables false
set_option maxRecDepth 100000 in
set_option maxHeartbeats 32000000 in
theorem l17Heads (k : Nat) (te ts : Int) (xs : List GHead) (hn : xs.length ≤ 1048576) (hz : ∀ c ∈ xs, c.Name.size ≤ 1048576) : call code (k + 6) 99 [.rd true (rws GHead.enc xs), .agg [.int .i64 te, .int .i64 ts]] [] = some ⟨.bool (headsA te ts xs && decide ((xs.length : Int) ≤ 16)), [], []⟩ := by
  refine call_run rfl fn99 rfl ?_
  simp [F99]
  refine RunC_loop (fun i : Nat => ⟨tm 67 [(0, .rd true (rws GHead.enc xs)), (3, .ptr 0 0 0 [] 0 0), (5, .int .i64 i)], [(0, some ⟨0, 2, true, false, [[.int .i64 te, .int .i64 ts]]⟩)], []⟩)
    (fun i => i ≤ xs.length ∧ ∀ j, j < i → okH te ts xs j = true) (fun i => xs.length - i) 0 ⟨by omega, by omega⟩ (by simp; omega) (by simp [tm]) fun i hi _ => ?_
  obtain ⟨hi, h0⟩ := hi
  have hrl := rws_len (enc := GHead.enc) xs
  by_cases hlt0 : 16 < i
  · have e : (headsA te ts xs && decide ((xs.length : Int) ≤ 16)) = false := by rw [show decide ((xs.length : Int) ≤ 16) = false from decide_eq_false (by omega)]; simp
    have d1 : ¬ (i : Int) ≤ 16 := by omega
    have d2 : ¬ (xs.length : Int) ≤ 16 := by omega
    have d3 : ¬ i ≤ 16 := by omega
    have d4 : ¬ xs.length ≤ 16 := by omega
    rw [e]
    by_cases hlt : i < xs.length <;> simp [tm, hlt, hrl, d1, d2, d3, d4]
  have d1 : (i : Int) ≤ 16 := by omega
  by_cases hlt : i < xs.length
  · have hs' := idx_succ' hlt (by omega)
    have hg : ∀ hh, (rws GHead.enc xs)[i]'hh = GHead.enc xs[i] := fun hh => rws_get ..
    have next : okH te ts xs i = true → ∃ a, (a ≤ xs.length ∧ ∀ j, j < a → okH te ts xs j = true) ∧ xs.length - a < xs.length - i ∧ ((i + 1 : Nat) : Int) = (a : Int) := fun h => ⟨i + 1, ⟨by omega, fun j hj => by
      rcases Nat.lt_succ_iff_lt_or_eq.1 hj with h1 | rfl
      · exact h0 j h1
      · exact h⟩, by omega, rfl⟩
    have stop : okH te ts xs i = false → (headsA te ts xs && decide ((xs.length : Int) ≤ 16)) = false := fun h => by unfold headsA; rw [range_false hlt h]; rfl
    have e0 : i = 0 → okH te ts xs i = hdB te ts xs[i] := fun h => by subst h; exact okH_zero hlt
    have e1 : 0 < i → okH te ts xs i = (hdB te ts xs[i] && ltN (xs[i - 1]'(by omega)).Name xs[i].Name) := fun h => okH_succ hlt h
    have hg2 : 0 < i → ∀ hh, (rws GHead.enc xs)[i - 1]'hh = GHead.enc (xs[i - 1]'(by omega)) := fun _ hh => rws_get ..
    have w1 : 0 < i → IntKind.wrap .i64 ((i : Int) - 1) = ((i - 1 : Nat) : Int) := fun _ => by rw [wrap64 ⟨by omega, by omega⟩]; omega
    have hi1 : i - 1 < xs.length := by omega
    unfold hdB at e0 e1
    have k1 := fun k => specNameOk k xs[i].Name (hz _ (List.getElem_mem hlt))
    have k2 := fun k => l17Full k xs[i].Ver_Epoch xs[i].Ver_Seq
    have k3 := fun k => verLessS k te ts xs[i].Ver_Epoch xs[i].Ver_Seq
    have k4 := fun k => l00In k xs[i].Size 0 64
    have k5 := fun k => l17Sum k xs[i].Sum
    unfold upB sizeB at e0 e1
    unfold ltN at e1
    simp only [GHead.enc] at hg hg2
    rcases Nat.eq_zero_or_pos i with hz0 | hi0
    · have e := e0 hz0
      subst hz0
      have w01 : IntKind.wrap .i64 1 = 1 := wrap64 ⟨by omega, by omega⟩
      cases c0 : nameB xs[0].Name
      · rw [c0] at k1
        have hst := stop (by rw [e]; simp [c0])
        simp [tm, hlt, d1, hg, storeM, rcall157, rcall158, rcall83, rcall97, rcall159, k1, hst]
      rw [c0] at k1
      cases c1 : fullB xs[0].Ver_Epoch xs[0].Ver_Seq
      · rw [c1] at k2
        have hst := stop (by rw [e]; simp [c0, c1])
        simp [tm, hlt, d1, hg, storeM, rcall157, rcall158, rcall83, rcall97, rcall159, k1, k2, hst]
      rw [c1] at k2
      cases c2 : lessB te ts xs[0].Ver_Epoch xs[0].Ver_Seq
      rotate_left
      · rw [c2] at k3
        have hst := stop (by rw [e]; simp [c0, c1, c2])
        simp [tm, hlt, d1, hg, storeM, rcall157, rcall158, rcall83, rcall97, rcall159, k1, k2, k3, hst]
      rw [c2] at k3
      cases c3 : inB xs[0].Size 0 64
      · rw [c3] at k4
        have hst := stop (by rw [e]; simp [c0, c1, c2, c3])
        simp [tm, hlt, d1, hg, storeM, rcall157, rcall158, rcall83, rcall97, rcall159, k1, k2, k3, k4, hst]
      rw [c3] at k4
      cases c4 : sumB xs[0].Sum
      · rw [c4] at k5
        have hst := stop (by rw [e]; simp [c0, c1, c2, c3, c4])
        simp [tm, hlt, d1, hg, storeM, rcall157, rcall158, rcall83, rcall97, rcall159, k1, k2, k3, k4, k5, hst]
      rw [c4] at k5
      have hnx := next (by rw [e]; simp [c0, c1, c2, c3, c4])
      simp [tm, hlt, d1, hg, storeM, rcall157, rcall158, rcall83, rcall97, rcall159, k1, k2, k3, k4, k5, w01]
      simpa using hnx
    · have e := e1 hi0
      have hg3 := hg2 hi0
      have w2 := w1 hi0
      cases c0 : nameB xs[i].Name
      · rw [c0] at k1
        have hst := stop (by rw [e]; simp [c0])
        simp [tm, hlt, d1, hg, hg3, w2, hi0, hi1, hrl, storeM, rcall157, rcall158, rcall83, rcall97, rcall159, k1, hst]
      rw [c0] at k1
      cases c1 : Op.bytesLess (xs[i - 1]'(by omega)).Name.toList xs[i].Name.toList
      · skip
        have hst := stop (by rw [e]; simp [c0, c1])
        simp [tm, hlt, d1, hg, hg3, w2, hi0, hi1, hrl, storeM, rcall157, rcall158, rcall83, rcall97, rcall159, k1, c1, hst]
      skip
      cases c2 : fullB xs[i].Ver_Epoch xs[i].Ver_Seq
      · rw [c2] at k2
        have hst := stop (by rw [e]; simp [c0, c1, c2])
        simp [tm, hlt, d1, hg, hg3, w2, hi0, hi1, hrl, storeM, rcall157, rcall158, rcall83, rcall97, rcall159, k1, c1, k2, hst]
      rw [c2] at k2
      cases c3 : lessB te ts xs[i].Ver_Epoch xs[i].Ver_Seq
      rotate_left
      · rw [c3] at k3
        have hst := stop (by rw [e]; simp [c0, c1, c2, c3])
        simp [tm, hlt, d1, hg, hg3, w2, hi0, hi1, hrl, storeM, rcall157, rcall158, rcall83, rcall97, rcall159, k1, c1, k2, k3, hst]
      rw [c3] at k3
      cases c4 : inB xs[i].Size 0 64
      · rw [c4] at k4
        have hst := stop (by rw [e]; simp [c0, c1, c2, c3, c4])
        simp [tm, hlt, d1, hg, hg3, w2, hi0, hi1, hrl, storeM, rcall157, rcall158, rcall83, rcall97, rcall159, k1, c1, k2, k3, k4, hst]
      rw [c4] at k4
      cases c5 : sumB xs[i].Sum
      · rw [c5] at k5
        have hst := stop (by rw [e]; simp [c0, c1, c2, c3, c4, c5])
        simp [tm, hlt, d1, hg, hg3, w2, hi0, hi1, hrl, storeM, rcall157, rcall158, rcall83, rcall97, rcall159, k1, c1, k2, k3, k4, k5, hst]
      rw [c5] at k5
      have hnx := next (by rw [e]; simp [c0, c1, c2, c3, c4, c5])
      simp [tm, hlt, d1, hg, hg3, w2, hi0, hi1, hrl, storeM, rcall157, rcall158, rcall83, rcall97, rcall159, k1, c1, k2, k3, k4, k5, hs']
      simpa using hnx
  · have : i = xs.length := by omega
    subst this
    have e : headsA te ts xs = true := range_all.2 h0
    rw [e, Bool.true_and]
    simp [tm, d1, hrl]
set_option maxRecDepth 100000 in
set_option maxHeartbeats 32000000 in
theorem l17Lasts (k : Nat) (te ts : Int) (xs : List GLast) (hn : xs.length ≤ 1048576) : call code (k + 6) 100 [.rd true (rws GLast.enc xs), .agg [.int .i64 te, .int .i64 ts]] [] = some ⟨.bool (lastsA te ts xs && decide ((xs.length : Int) ≤ 6)), [], []⟩ := by
  refine call_run rfl fn100 rfl ?_
  simp [F100]
  refine RunC_loop (fun i : Nat => ⟨tm 61 [(0, .rd true (rws GLast.enc xs)), (3, .ptr 0 0 0 [] 0 0), (5, .int .i64 i)], [(0, some ⟨0, 2, true, false, [[.int .i64 te, .int .i64 ts]]⟩)], []⟩)
    (fun i => i ≤ xs.length ∧ ∀ j, j < i → okL te ts xs j = true) (fun i => xs.length - i) 0 ⟨by omega, by omega⟩ (by simp; omega) (by simp [tm]) fun i hi _ => ?_
  obtain ⟨hi, h0⟩ := hi
  have hrl := rws_len (enc := GLast.enc) xs
  by_cases hlt0 : 6 < i
  · have e : (lastsA te ts xs && decide ((xs.length : Int) ≤ 6)) = false := by rw [show decide ((xs.length : Int) ≤ 6) = false from decide_eq_false (by omega)]; simp
    have d1 : ¬ (i : Int) ≤ 6 := by omega
    have d2 : ¬ (xs.length : Int) ≤ 6 := by omega
    have d3 : ¬ i ≤ 6 := by omega
    have d4 : ¬ xs.length ≤ 6 := by omega
    rw [e]
    by_cases hlt : i < xs.length <;> simp [tm, hlt, hrl, d1, d2, d3, d4]
  have d1 : (i : Int) ≤ 6 := by omega
  by_cases hlt : i < xs.length
  · have hs' := idx_succ' hlt (by omega)
    have hg : ∀ hh, (rws GLast.enc xs)[i]'hh = GLast.enc xs[i] := fun hh => rws_get ..
    have next : okL te ts xs i = true → ∃ a, (a ≤ xs.length ∧ ∀ j, j < a → okL te ts xs j = true) ∧ xs.length - a < xs.length - i ∧ ((i + 1 : Nat) : Int) = (a : Int) := fun h => ⟨i + 1, ⟨by omega, fun j hj => by
      rcases Nat.lt_succ_iff_lt_or_eq.1 hj with h1 | rfl
      · exact h0 j h1
      · exact h⟩, by omega, rfl⟩
    have stop : okL te ts xs i = false → (lastsA te ts xs && decide ((xs.length : Int) ≤ 6)) = false := fun h => by unfold lastsA; rw [range_false hlt h]; rfl
    have e0 : i = 0 → okL te ts xs i = ltL te ts xs[i] := fun h => by subst h; exact okL_zero hlt
    have e1 : 0 < i → okL te ts xs i = (ltL te ts xs[i] && decide ((xs[i - 1]'(by omega)).Client < xs[i].Client)) := fun h => okL_succ hlt h
    have hg2 : 0 < i → ∀ hh, (rws GLast.enc xs)[i - 1]'hh = GLast.enc (xs[i - 1]'(by omega)) := fun _ hh => rws_get ..
    have w1 : 0 < i → IntKind.wrap .i64 ((i : Int) - 1) = ((i - 1 : Nat) : Int) := fun _ => by rw [wrap64 ⟨by omega, by omega⟩]; omega
    have hi1 : i - 1 < xs.length := by omega
    unfold ltL at e0 e1
    have k1 := fun k => l17Client k xs[i].Client
    have k2 := fun k => l17Full k xs[i].Ver_Epoch xs[i].Ver_Seq
    have k3 := fun k => verLessS k te ts xs[i].Ver_Epoch xs[i].Ver_Seq
    have k4 := fun k => l00In k xs[i].No 1 1000
    unfold upB at e0 e1
    simp only [GLast.enc] at hg hg2
    rcases Nat.eq_zero_or_pos i with hz0 | hi0
    · have e := e0 hz0
      subst hz0
      have w01 : IntKind.wrap .i64 1 = 1 := wrap64 ⟨by omega, by omega⟩
      cases c0 : cliB xs[0].Client
      · rw [c0] at k1
        have hst := stop (by rw [e]; simp [c0])
        simp [tm, hlt, d1, hg, storeM, rcall173, rcall158, rcall83, rcall97, k1, hst]
      rw [c0] at k1
      cases c1 : inB xs[0].No 1 1000
      · rw [c1] at k4
        have hst := stop (by rw [e]; simp [c0, c1])
        simp [tm, hlt, d1, hg, storeM, rcall173, rcall158, rcall83, rcall97, k1, k4, hst]
      rw [c1] at k4
      cases c2 : fullB xs[0].Ver_Epoch xs[0].Ver_Seq
      · rw [c2] at k2
        have hst := stop (by rw [e]; simp [c0, c1, c2])
        simp [tm, hlt, d1, hg, storeM, rcall173, rcall158, rcall83, rcall97, k1, k4, k2, hst]
      rw [c2] at k2
      cases c3 : lessB te ts xs[0].Ver_Epoch xs[0].Ver_Seq
      rotate_left
      · rw [c3] at k3
        have hst := stop (by rw [e]; simp [c0, c1, c2, c3])
        simp [tm, hlt, d1, hg, storeM, rcall173, rcall158, rcall83, rcall97, k1, k4, k2, k3, hst]
      rw [c3] at k3
      have hnx := next (by rw [e]; simp [c0, c1, c2, c3])
      simp [tm, hlt, d1, hg, storeM, rcall173, rcall158, rcall83, rcall97, k1, k4, k2, k3, w01]
      simpa using hnx
    · have e := e1 hi0
      have hg3 := hg2 hi0
      have w2 := w1 hi0
      have hge : decide (xs[i].Client ≤ (xs[i - 1]'(by omega)).Client) = !decide ((xs[i - 1]'(by omega)).Client < xs[i].Client) := by
        by_cases h : (xs[i - 1]'(by omega)).Client < xs[i].Client
        · have : ¬ xs[i].Client ≤ (xs[i - 1]'(by omega)).Client := by omega
          simp [h, this]
        · have : xs[i].Client ≤ (xs[i - 1]'(by omega)).Client := by omega
          simp [h, this]
      cases c0 : cliB xs[i].Client
      · rw [c0] at k1
        have hst := stop (by rw [e]; simp [c0])
        simp [tm, hlt, d1, hg, hg3, w2, hi0, hi1, hrl, storeM, rcall173, rcall158, rcall83, rcall97, k1, hst]
      rw [c0] at k1
      cases c1 : decide ((xs[i - 1]'(by omega)).Client < xs[i].Client)
      · rw [c1] at hge
        have hst := stop (by rw [e]; simp [c0, c1])
        simp [tm, hlt, d1, hg, hg3, w2, hi0, hi1, hrl, storeM, rcall173, rcall158, rcall83, rcall97, k1, hge, hst]
      rw [c1] at hge
      cases c2 : inB xs[i].No 1 1000
      · rw [c2] at k4
        have hst := stop (by rw [e]; simp [c0, c1, c2])
        simp [tm, hlt, d1, hg, hg3, w2, hi0, hi1, hrl, storeM, rcall173, rcall158, rcall83, rcall97, k1, hge, k4, hst]
      rw [c2] at k4
      cases c3 : fullB xs[i].Ver_Epoch xs[i].Ver_Seq
      · rw [c3] at k2
        have hst := stop (by rw [e]; simp [c0, c1, c2, c3])
        simp [tm, hlt, d1, hg, hg3, w2, hi0, hi1, hrl, storeM, rcall173, rcall158, rcall83, rcall97, k1, hge, k4, k2, hst]
      rw [c3] at k2
      cases c4 : lessB te ts xs[i].Ver_Epoch xs[i].Ver_Seq
      rotate_left
      · rw [c4] at k3
        have hst := stop (by rw [e]; simp [c0, c1, c2, c3, c4])
        simp [tm, hlt, d1, hg, hg3, w2, hi0, hi1, hrl, storeM, rcall173, rcall158, rcall83, rcall97, k1, hge, k4, k2, k3, hst]
      rw [c4] at k3
      have hnx := next (by rw [e]; simp [c0, c1, c2, c3, c4])
      simp [tm, hlt, d1, hg, hg3, w2, hi0, hi1, hrl, storeM, rcall173, rcall158, rcall83, rcall97, k1, hge, k4, k2, k3, hs']
      simpa using hnx
  · have : i = xs.length := by omega
    subst this
    have e : lastsA te ts xs = true := range_all.2 h0
    rw [e, Bool.true_and]
    simp [tm, d1, hrl]
end Go.Ae.GA.B
