/- Places lost: rising, within; what is on hand. -/
import Derived.Test.YtnfghcflpnlbiaaC3M5
import Derived.Test.YtnfghcflpnlbiaaC3M10
namespace Go.Ae.C3
set_option linter.unusedSimpArgs false
set_option linter.unusedVariables false
def hasB (ps : List Int) (x : Int) : Bool := ps.any fun y => x == y
def fallB (ps : List Int) (i : Nat) : Bool := decide (ps.getD i 0 ≤ ps.getD (i - 1) 0)
def incB (ps : List Int) : Bool := (List.range ps.length).all fun i => !(decide (0 < i) && fallB ps i)
def outB (h : Int) (x : Int) : Bool := !inB x 0 h
theorem getDi {ps : List Int} {i : Nat} (h : i < ps.length) : ps.getD i 0 = ps[i] := by rw [List.getD_eq_getElem?_getD, List.getElem?_eq_getElem h]; rfl
theorem incB_false {ps : List Int} {i : Nat} (hi : i < ps.length) (h0 : 0 < i) (h : fallB ps i = true) : incB ps = false := by
  unfold incB; rw [List.all_eq_false]; exact ⟨i, List.mem_range.2 hi, by simp [h, h0]⟩
theorem incB_true {ps : List Int} (h : ∀ i, i < ps.length → 0 < i → fallB ps i = false) : incB ps = true := by
  unfold incB; rw [List.all_eq_true]; intro i hi
  by_cases h0 : 0 < i
  · rw [h i (List.mem_range.1 hi) h0]; simp
  · simp [h0]
set_option maxHeartbeats 4000000 in
theorem increasing (k : Nat) (ps : List Int) (hn : ps.length ≤ 1048576) : call code (k + 1) 107 [.rd true (rws encI ps)] [] = some ⟨.bool (incB ps), [], []⟩ := by
  refine call_run rfl fn107 rfl ?_
  simp [F107]
  refine RunC_loop (fun i : Nat => ⟨tm 20 [(0, .rd true (rws encI ps)), (3, .int .i64 i)], [], []⟩)
    (fun i => 1 ≤ i ∧ ∀ j, j < ps.length → 0 < j → j < i → fallB ps j = false) (fun i => ps.length - i) 1 ⟨Nat.le_refl _, fun j _ h0 hj => by omega⟩ (by simp; omega) (by simp [tm]) fun i hi _ => ?_
  obtain ⟨hi, hall⟩ := hi
  by_cases hlt : i < ps.length
  · have hs := idx_succ' hlt (by omega)
    have hs2 : IntKind.wrap .i64 ((i : Int) - 1) = ((i - 1 : Nat) : Int) := by rw [wrap64 ⟨by omega, by omega⟩]; omega
    have hi1 : i - 1 < ps.length := by omega
    have hg : fallB ps i = decide (ps[i] ≤ ps[i - 1]) := by unfold fallB; rw [getDi hlt, getDi hi1]
    have hfin := incB_false hlt (by omega)
    cases hd : fallB ps i
    · have hnx : ∀ j, j < ps.length → 0 < j → j < i + 1 → fallB ps j = false := fun j h1 h2 h3 => by
        rcases Nat.lt_succ_iff_lt_or_eq.1 h3 with h' | rfl
        · exact hall j h1 h2 h'
        · exact hd
      rw [hd] at hg
      have hg' := hg.symm
      simp at hg'
      have hg2 : ¬ ps[i] ≤ ps[i - 1] := by omega
      generalize i - 1 = i1 at *
      simp [tm, hlt, hs, hs2, encI, hi1, hg', hg2]
      exact ⟨i + 1, ⟨by omega, hnx⟩, by omega, by simp⟩
    · rw [hfin hd]
      rw [hd] at hg
      have hg' := hg.symm
      simp at hg'
      generalize i - 1 = i1 at *
      simp [tm, hlt, hs, hs2, encI, hi1, hg']
  · have hd : incB ps = true := incB_true fun j h1 h2 => hall j h1 h2 (by omega)
    rw [hd]
    simp [tm, hlt]
theorem outOne (k : Nat) (h x : Int) : call code (k + 2) 141 [.int .i64 x, .rptr [.int .i64 0], .rptr [.int .i64 h]] [] = some ⟨.bool (outB h x), [], []⟩ := by
  refine call_run rfl fn141 rfl ?_
  have b := fun k => between k x 0 h
  simp [F141, rcall86, b, outB]
theorem allBetween (k : Nat) (ps : List Int) (h : Int) (hn : ps.length ≤ 1048576) : call code (k + 5) 108 [.rd true (rws encI ps), .int .i64 0, .int .i64 h] [] = some ⟨.bool (!ps.any (outB h)), [], []⟩ := by
  refine call_run rfl fn108 rfl ?_
  have c : ∀ k, call code (k + 4) 140 [.rd true (rws encI ps), .fn 141 [.rptr [.int .i64 0], .rptr [.int .i64 h]]] [] = some ⟨.bool (ps.any (outB h)), [], []⟩ := fun k => by
    refine containsFunc_ok (c := code) (i := 167) (enc := encI) rfl rfl rfl 3 true ps (fun st => by simp) (fun k => ?_) k
    exact indexFunc_ok (c := code) (sz := 1) (ag := false) (enc := encI) (arg := fun s => .int .i64 s) rfl rfl 2 true ps (by omega) rfl (fun _ => rfl) (fun _ => rfl) (fun st x => by simp) (fun h => by simp) (fun k x _ => outOne k h x) k
  simp [F108, rcall140, c]
set_option maxHeartbeats 4000000 in
theorem indexI (k : Nat) (ps : List Int) (x : Int) (hn : ps.length ≤ 1048576) : call code (k + 1) 142 [.rd true (rws encI ps), .int .i64 x] [] = some ⟨.int .i64 (idxP (fun y => x == y) ps), [], []⟩ := by
  refine call_run rfl fn142 rfl ?_
  simp [F142]
  refine RunC_loop (fun i : Nat => ⟨tm 19 [(0, .rd true (rws encI ps)), (1, .int .i64 x), (7, .int .i64 ps.length), (8, .int .i64 i)], [], []⟩)
    (fun i => i ≤ ps.length ∧ ∀ j (hj : j < ps.length), j < i → (x == ps[j]) = false) (fun i => ps.length - i) 0 ⟨Nat.zero_le _, fun j hj h => by omega⟩ (by simp; omega) (by simp [tm]) fun i hi _ => ?_
  obtain ⟨hi, hall⟩ := hi
  by_cases hlt : i < ps.length
  · have hs := idx_succ' hlt (by omega)
    cases hd : (x == ps[i])
    · have hnx : ∀ j (hj : j < ps.length), j < i + 1 → (x == ps[j]) = false := fun j hj h => by
        rcases Nat.lt_succ_iff_lt_or_eq.1 h with h' | rfl
        · exact hall j hj h'
        · exact hd
      simp [tm, hlt, hs, encI, hd]
      exact ⟨i + 1, ⟨by omega, fun j hj h => by simpa using hnx j hj h⟩, by omega, by simp⟩
    · have hr := idxP_some (p := fun y => x == y) hlt hd fun j hj => hall j (by omega) hj
      rw [hr]
      simp [tm, hlt, hs, encI, hd]
  · have : i = ps.length := by omega
    subst this
    have hr := idxP_none (p := fun y => x == y) (l := ps) fun j hj => hall j hj hj
    rw [hr]
    simp [tm]
theorem contains (k : Nat) (ps : List Int) (x : Int) (hn : ps.length ≤ 1048576) : call code (k + 2) 109 [.rd true (rws encI ps), .int .i64 x] [] = some ⟨.bool (hasB ps x), [], []⟩ := by
  refine call_run rfl fn109 rfl ?_
  have c := fun k => indexI k ps x hn
  have hge := idxP_ge (fun y => x == y) ps
  unfold hasB
  rw [← hge]
  simp [F109, rcall142, c]
set_option maxHeartbeats 4000000 in
theorem l00Has (k : Nat) (ps : List Int) (x : Int) (hn : ps.length ≤ 1048576) : call code (k + 1) 143 [.rd true (rws encI ps), .int .i64 x] [] = some ⟨.bool (hasB ps x), [], []⟩ := by
  refine call_run rfl fn143 rfl ?_
  simp [F143]
  refine RunC_loop (fun i : Nat => ⟨tm 18 [(0, .rd true (rws encI ps)), (1, .int .i64 x), (5, .int .i64 i)], [], []⟩)
    (fun i => i ≤ ps.length ∧ ∀ j (hj : j < ps.length), j < i → (x == ps[j]) = false) (fun i => ps.length - i) 0 ⟨Nat.zero_le _, fun j hj h => by omega⟩ (by simp; omega) (by simp [tm]) fun i hi _ => ?_
  obtain ⟨hi, hall⟩ := hi
  by_cases hlt : i < ps.length
  · have hs := idx_succ' hlt (by omega)
    cases hd : (x == ps[i])
    · have hnx : ∀ j (hj : j < ps.length), j < i + 1 → (x == ps[j]) = false := fun j hj h => by
        rcases Nat.lt_succ_iff_lt_or_eq.1 h with h' | rfl
        · exact hall j hj h'
        · exact hd
      have hd' : (ps[i] == x) = false := by rw [BEq.comm]; exact hd
      simp [tm, hlt, hs, encI, hd']
      exact ⟨i + 1, ⟨by omega, fun j hj h => by simpa using hnx j hj h⟩, by omega, by simp⟩
    · have hd' : (ps[i] == x) = true := by rw [BEq.comm]; exact hd
      have hr : hasB ps x = true := any_true hlt hd
      rw [hr]
      simp [tm, hlt, hs, encI, hd']
  · have : i = ps.length := by omega
    subst this
    have hr : hasB ps x = false := any_false fun j hj => hall j hj hj
    rw [hr]
    simp [tm]
theorem l00Min (k : Nat) (x y : Int) : call code (k + 1) 112 [.int .i64 x, .int .i64 y] [] = some ⟨.int .i64 (min x y), [], []⟩ := by
  refine call_run rfl fn112 rfl ?_
  by_cases h : x < y
  · have e : min x y = x := by omega
    rw [e]; simp [F112, h]
  · have e : min x y = y := by omega
    rw [e]; simp [F112, h]
end Go.Ae.C3
namespace Go.Ae.C3
set_option linter.unusedSimpArgs false
set_option linter.unusedVariables false
def badR (h : Int) (ps : List Int) (i : Nat) : Bool := outB h (ps.getD i 0) || (decide (0 < i) && fallB ps i)
def risB (h : Int) (ps : List Int) : Bool := (List.range ps.length).all fun i => !badR h ps i
theorem risB_false {h : Int} {ps : List Int} {i : Nat} (hi : i < ps.length) (hb : badR h ps i = true) : risB h ps = false := by
  unfold risB; rw [List.all_eq_false]; exact ⟨i, List.mem_range.2 hi, by simp [hb]⟩
theorem risB_true {h : Int} {ps : List Int} (hb : ∀ i, i < ps.length → badR h ps i = false) : risB h ps = true := by
  unfold risB; rw [List.all_eq_true]; intro i hi; rw [hb i (List.mem_range.1 hi)]; rfl
theorem risB_eq (h : Int) (ps : List Int) : risB h ps = (incB ps && !ps.any (outB h)) := by
  cases hr : risB h ps
  · unfold risB at hr
    rw [List.all_eq_false] at hr
    obtain ⟨i, hi, hb⟩ := hr
    have hi := List.mem_range.1 hi
    have hb : badR h ps i = true := by simpa using hb
    rw [badR, getDi hi, Bool.or_eq_true, Bool.and_eq_true] at hb
    rcases hb with h1 | ⟨h1, h2⟩
    · have : ps.any (outB h) = true := any_true hi h1
      simp [this]
    · have := incB_false hi (of_decide_eq_true h1) h2
      simp [this]
  · have hb : ∀ i, i < ps.length → badR h ps i = false := fun i hi => by
      cases hb : badR h ps i
      · rfl
      · rw [risB_false hi hb] at hr; cases hr
    have h1 : incB ps = true := incB_true fun i hi h0 => by
      have := hb i hi
      simp [badR, h0] at this
      exact this.2
    have h2 : ps.any (outB h) = false := any_false fun i hi => by
      have := hb i hi
      rw [badR, getDi hi] at this
      simp only [Bool.or_eq_false_iff] at this
      exact this.1
    rw [h1, h2]; rfl
set_option maxHeartbeats 8000000 in
theorem l00Rises (k : Nat) (ps : List Int) (h : Int) (hn : ps.length ≤ 1048576) : call code (k + 2) 110 [.rd true (rws encI ps), .int .i64 0, .int .i64 h] [] = some ⟨.bool (risB h ps), [], []⟩ := by
  refine call_run rfl fn110 rfl ?_
  have b := fun k x => l00In k x 0 h
  simp [F110]
  refine RunC_loop (fun i : Nat => ⟨tm 38 [(0, .rd true (rws encI ps)), (1, .int .i64 0), (2, .int .i64 h), (7, .int .i64 i)], [], []⟩)
    (fun i => i ≤ ps.length ∧ ∀ j, j < i → badR h ps j = false) (fun i => ps.length - i) 0 ⟨Nat.zero_le _, fun j hj => by omega⟩ (by simp; omega) (by simp [tm]) fun i hi _ => ?_
  obtain ⟨hi, hall⟩ := hi
  by_cases hlt : i < ps.length
  · have hs := idx_succ' hlt (by omega)
    have hg : badR h ps i = (outB h ps[i] || (decide (0 < i) && fallB ps i)) := by rw [badR, getDi hlt]
    unfold outB at hg
    have hfin := risB_false (h := h) hlt
    have hnx : badR h ps i = false → ∀ j, j < i + 1 → badR h ps j = false := fun hd j h => by
      rcases Nat.lt_succ_iff_lt_or_eq.1 h with h' | rfl
      · exact hall j h'
      · exact hd
    have b1 := fun k => b k ps[i]
    cases c1 : inB ps[i] 0 h
    · rw [c1] at b1 hg
      simp at hg
      rw [hfin hg]
      simp [tm, hlt, encI, rcall77, b1]
    rw [c1] at b1 hg
    by_cases h0 : i = 0
    · subst h0
      simp at hg
      have h2 := hnx hg
      have w1 : IntKind.wrap .i64 1 = 1 := wrap64 ⟨by omega, by omega⟩
      simp [tm, hlt, encI, rcall77, b1, w1]
      exact ⟨1, ⟨by omega, h2⟩, by omega, rfl⟩
    have h0' : 0 < i := by omega
    have hs2 : IntKind.wrap .i64 ((i : Int) - 1) = ((i - 1 : Nat) : Int) := by rw [wrap64 ⟨by omega, by omega⟩]; omega
    have hi1 : i - 1 < ps.length := by omega
    have hf : fallB ps i = decide (ps[i] ≤ ps[i - 1]) := by unfold fallB; rw [getDi hlt, getDi hi1]
    rw [hf] at hg
    cases hd : badR h ps i
    · have h2 := hnx hd
      rw [hd] at hg
      have hg' := hg.symm
      simp [h0'] at hg'
      have hg2 : ¬ ps[i] ≤ ps[i - 1] := by omega
      generalize i - 1 = i1 at *
      simp [tm, hlt, hs, hs2, encI, hi1, rcall77, b1, h0', hg', hg2]
      exact ⟨i + 1, ⟨by omega, h2⟩, by omega, by simp⟩
    · rw [hfin hd]
      rw [hd] at hg
      have hg' := hg.symm
      simp [h0'] at hg'
      generalize i - 1 = i1 at *
      simp [tm, hlt, hs, hs2, encI, hi1, rcall77, b1, h0', hg']
  · have : i = ps.length := by omega
    subst this
    rw [risB_true hall]
    simp [tm]
/-- The places that are left. -/
def keepN (ps : List Int) (i : Nat) : List Nat := (List.range i).filter fun j => !hasB ps j
theorem keepN_succ (ps : List Int) (i : Nat) : keepN ps (i + 1) = keepN ps i ++ if hasB ps i then [] else [i] := by
  unfold keepN
  rw [List.range_succ, List.filter_append]
  cases h : hasB ps i <;> simp [h]
theorem keepN_lt {ps : List Int} {i j : Nat} (h : j ∈ keepN ps i) : j < i := by
  simp [keepN] at h; exact h.1
theorem keepN_inc (ps : List Int) (n : Nat) : ∀ i j (hi : i < j) (hj : j < (keepN ps n).length), (keepN ps n)[i] < (keepN ps n)[j] := by
  have : List.Pairwise (· < ·) (keepN ps n) := List.Pairwise.filter _ List.pairwise_lt_range
  intro i j hi hj
  exact List.pairwise_iff_getElem.1 this i j (by omega) hj hi
def below (ps : List Int) (n : Nat) : Nat := ps.countP fun x => decide (x < (n : Int))
theorem below_succ {ps : List Int} (hp : List.Pairwise (· < ·) ps) (h0 : ∀ x ∈ ps, (0 : Int) ≤ x) (n : Nat) : below ps (n + 1) = below ps n + if hasB ps n then 1 else 0 := by
  unfold below hasB
  induction ps with
  | nil => rfl
  | cons x r ih =>
    rw [List.pairwise_cons] at hp
    have ih := ih hp.2 fun y hy => h0 y (List.mem_cons_of_mem _ hy)
    rw [List.countP_cons, List.countP_cons, ih, List.any_cons]
    by_cases h1 : (n : Int) = x
    · have h2 : r.any (fun y => (n : Int) == y) = false := by
        rw [List.any_eq_false]; intro y hy
        have := hp.1 y hy
        simp; omega
      have e1 : decide (x < ((n + 1 : Nat) : Int)) = true := by simp; omega
      have e2 : decide (x < (n : Int)) = false := by simp; omega
      have e3 : ((n : Int) == x) = true := by simp [h1]
      rw [h2, e1, e2, e3]; simp
    · have e1 : decide (x < ((n + 1 : Nat) : Int)) = decide (x < (n : Int)) := by apply decide_eq_decide.2; omega
      have e3 : ((n : Int) == x) = false := by simpa using h1
      rw [e1, e3]; simp; omega
theorem keepN_len {ps : List Int} (hp : List.Pairwise (· < ·) ps) (h0 : ∀ x ∈ ps, (0 : Int) ≤ x) : ∀ n, (keepN ps n).length + below ps n = n
  | 0 => by
    have : below ps 0 = 0 := by
      unfold below
      rw [List.countP_eq_zero]
      intro x hx
      have := h0 x hx
      simp; omega
    rw [this]; rfl
  | n + 1 => by
    have ih := keepN_len hp h0 n
    rw [keepN_succ, below_succ hp h0, List.length_append]
    cases h : hasB ps n <;> simp <;> omega
theorem incB_pair : ∀ {ps : List Int}, incB ps = true → List.Pairwise (· < ·) ps := by
  intro ps h
  have hh : ∀ i, i + 1 < ps.length → ps.getD i 0 < ps.getD (i + 1) 0 := fun i hi => by
    unfold incB at h
    rw [List.all_eq_true] at h
    have := h (i + 1) (List.mem_range.2 hi)
    simp [fallB] at this
    rw [List.getD_eq_getElem?_getD, List.getD_eq_getElem?_getD]
    exact this
  have hg : ∀ d i, i + d + 1 < ps.length → ps.getD i 0 < ps.getD (i + d + 1) 0 := fun d => by
    induction d with
    | zero => intro i hi; exact hh i hi
    | succ d ih => intro i hi; exact Int.lt_trans (ih i (by omega)) (hh (i + d + 1) (by omega))
  rw [List.pairwise_iff_getElem]
  intro i j hi hj hij
  have := hg (j - i - 1) i (by omega)
  have e : i + (j - i - 1) + 1 = j := by omega
  rw [e, getDi hi, getDi hj] at this
  exact this
/-- As many are left as are not lost. -/
theorem keepN_count {ps : List Int} {n : Nat} (h1 : incB ps = true) (h2 : ps.any (outB ((n : Int) - 1)) = false) : (keepN ps n).length + ps.length = n := by
  have hin : ∀ x ∈ ps, 0 ≤ x ∧ x < n := fun x hx => by
    rw [List.any_eq_false] at h2
    have := h2 x hx
    simp [outB, inB] at this
    omega
  have h := keepN_len (incB_pair h1) (fun x hx => (hin x hx).1) n
  have : below ps n = ps.length := by
    unfold below
    rw [List.countP_eq_length]
    intro x hx
    simpa using (hin x hx).2
  omega
end Go.Ae.C3
namespace Go.Ae.C3
set_option linter.unusedSimpArgs false
set_option linter.unusedVariables false
def onH (ws : List ByteArray) (ps : List Int) (i : Nat) : List GShard := (keepN ps i).map fun (j : Nat) => ⟨(j : Int), ws.getD j ByteArray.empty⟩
theorem onH_len (ws : List ByteArray) (ps : List Int) (i : Nat) : (onH ws ps i).length = (keepN ps i).length := by simp [onH]
theorem onH_le (ws : List ByteArray) (ps : List Int) (i : Nat) : (onH ws ps i).length ≤ i := by
  rw [onH_len]; unfold keepN
  exact Nat.le_trans (List.length_filter_le _ _) (by simp)
theorem onH_has {ws : List ByteArray} {ps : List Int} {i : Nat} (h : hasB ps i = true) : onH ws ps (i + 1) = onH ws ps i := by simp [onH, keepN_succ, h]
theorem onH_new {ws : List ByteArray} {ps : List Int} {i : Nat} (h : hasB ps i = false) : rws GShard.enc (onH ws ps i) ++ [[.int .i64 (i : Int), .str (ws.getD i ByteArray.empty)]] = rws GShard.enc (onH ws ps (i + 1)) := by
  simp [onH, keepN_succ, h, rws, GShard.enc]
theorem onH_get {ws : List ByteArray} {ps : List Int} {n i : Nat} (h : i < (onH ws ps n).length) : (onH ws ps n)[i] = ⟨(((keepN ps n)[i]'(by rwa [onH_len] at h) : Nat) : Int), ws.getD ((keepN ps n)[i]'(by rwa [onH_len] at h)) ByteArray.empty⟩ := by simp [onH]
theorem onH_haveF {a b u n : Nat} {ws : List ByteArray} (h : Wide a b u n ws) (ps : List Int) : HaveF a b (tallN a u n) (onH ws ps (a + b)) where
  a1 := ⟨h.a1, h.a4⟩
  b1 := h.b3
  pos := fun i hi => by
    rw [onH_get hi]
    have hk : i < (keepN ps (a + b)).length := by rwa [onH_len] at hi
    have := keepN_lt (List.getElem_mem hk)
    simp only
    omega
  inc := fun i j hi hj => by
    rw [onH_get hj, onH_get (by omega)]
    have := keepN_inc ps (a + b) i j hi (by rwa [onH_len] at hj)
    simp only
    omega
  len := fun i hi => by
    rw [onH_get hi]
    have hk : i < (keepN ps (a + b)).length := by rwa [onH_len] at hi
    have hl := keepN_lt (List.getElem_mem hk)
    have hw : (keepN ps (a + b))[i]'hk < ws.length := by rw [h.len]; exact hl
    simp only
    rw [List.getD_eq_getElem?_getD, List.getElem?_eq_getElem hw, Option.getD_some]
    exact h.all _ (List.getElem_mem hw)
theorem recD_cols {a b u n : Nat} {ws : List ByteArray} (h : Wide a b u n ws) {ps : List Int} (hl : a ≤ (onH ws ps (a + b)).length) : Cols a u n ((recD a b (tallN a u n) (onH ws ps (a + b))).map B) where
  a1 := h.a1
  a4 := h.a4
  u1 := h.u1
  u8 := h.u8
  n256 := h.n256
  len := by rw [List.length_map, recD_len (onH_haveF h ps) hl]; exact Nat.le_refl _
  all := fun s hs => by
    obtain ⟨l, hm, rfl⟩ := List.mem_map.1 hs
    rw [bsz, recD_all (onH_haveF h ps) hl l hm]
set_option maxHeartbeats 8000000 in
theorem l05Found (k : Nat) {a b u n : Nat} {ws : List ByteArray} (h : Wide a b u n ws) (ps : List Int) (hn : ps.length ≤ 1048576) :
    (a ≤ (onH ws ps (a + b)).length → call code (k + 8) 111 [.agg [.int .i64 a, .int .i64 b, .int .i64 u, .int .i64 n, .rd true (rws encT ws)], .rd true (rws encI ps)] [] = some ⟨.tup [.agg [.int .i64 a, .int .i64 b, .int .i64 u, .int .i64 n, .sl 0 0 0 [] 0 a], .bool true], [⟨0, 1, false, true, rowsS (recD a b (tallN a u n) (onH ws ps (a + b)))⟩], []⟩) ∧
    ((onH ws ps (a + b)).length < a → call code (k + 8) 111 [.agg [.int .i64 a, .int .i64 b, .int .i64 u, .int .i64 n, .rd true (rws encT ws)], .rd true (rws encI ps)] [] = some ⟨.tup [.agg [.int .i64 0, .int .i64 0, .int .i64 0, .int .i64 0, .sl 0 0 0 [] 0 0], .bool false], [⟨0, 1, false, true, []⟩], []⟩) := by
  have H := onH_haveF h ps
  have hlen := h.len
  have hb3 := h.b3
  have ha4 := h.a4
  have ha1 := h.a1
  have c := fun k x => l00Has k ps x hn
  have htl := tallN_le (n := n) h.a1 h.u1
  have h256 := h.n256
  have hu8 := h.u8
  have bk := fun k hle => l04Back k H hle (by omega)
  have hdl := fun hle => recD_len H hle
  generalize tallN a u n = t at *
  have hob := onH_le ws ps
  refine ⟨fun hle => call_run rfl fn111 rfl ?_, fun hlt => call_run rfl fn111 rfl ?_⟩
  · have bk2 := fun k => bk k hle
    clear bk
    have hrl := rowsS_len (recD a b t (onH ws ps (a + b)))
    rw [hdl hle] at hrl
    have tR : (rowsS (recD a b t (onH ws ps (a + b)))).take a = rowsS (recD a b t (onH ws ps (a + b))) := List.take_of_length_le (by omega)
    clear hdl
    generalize rowsS (recD a b t (onH ws ps (a + b))) = R at *
    simp [F111]
    refine RunC_loop (fun i : Nat => ⟨tm 43 [(1, .rd true (rws encI ps)), (2, .ptr 0 0 0 [] 0 0), (4, .ptr 0 256 0 [] 0 0), (6, .sl 0 65536 0 [] 0 (onH ws ps i).length), (7, .int .i64 i)], [(0, some ⟨0, 5, true, false, [[.int .i64 a, .int .i64 b, .int .i64 u, .int .i64 n, .rd true (rws encT ws)]]⟩), (256, some ⟨0, 5, true, false, [[.int .i64 0, .int .i64 0, .int .i64 0, .int .i64 0, .sl 0 261 0 [] 0 0]]⟩), (261, some ⟨0, 1, false, true, []⟩), (65536, some ⟨0, 2, false, true, rws GShard.enc (onH ws ps i)⟩)], []⟩)
      (fun i => i ≤ a + b) (fun i => a + b - i) 0 (Nat.zero_le _) (by simp; omega) (by simp [tm, onH, keepN, rws]) fun i hi _ => ?_
    by_cases hlt : i < a + b
    · have hs := idx_succ' hlt (by omega)
      have hiw : i < ws.length := by omega
      have c1 := fun k => c k i
      have hob1 := hob i
      have hrl2 := rws_len (enc := GShard.enc) (onH ws ps i)
      cases hc : hasB ps i
      · rw [hc] at c1
        have hg : ws.getD i ByteArray.empty = ws[i] := by rw [List.getD_eq_getElem?_getD, List.getElem?_eq_getElem hiw]; rfl
        have hnew := onH_new (ws := ws) hc
        rw [hg] at hnew
        have hl2 : (onH ws ps (i + 1)).length = (onH ws ps i).length + 1 := by rw [onH_len, onH_len, keepN_succ, hc]; simp
        generalize hR' : rws GShard.enc (onH ws ps (i + 1)) = R' at *
        generalize rws GShard.enc (onH ws ps i) = R0 at *
        generalize hl0 : (onH ws ps i).length = l0 at *
        simp [tm, hiw, hs, encT, rcall143, c1, evalW, source, hrl2, hnew]
        exact ⟨⟨by omega, by omega⟩, i + 1, by omega, by omega, ⟨hl2.symm, by omega⟩, hR'.symm⟩
      · rw [hc] at c1
        have hsame := onH_has (ws := ws) hc
        have hl2 : (onH ws ps (i + 1)).length = (onH ws ps i).length := by rw [hsame]
        have hR' : rws GShard.enc (onH ws ps (i + 1)) = rws GShard.enc (onH ws ps i) := by rw [hsame]
        generalize hl0 : (onH ws ps i).length = l0 at *
        generalize rws GShard.enc (onH ws ps i) = R0 at *
        simp [tm, hiw, hs, encT, rcall143, c1]
        exact ⟨i + 1, by omega, by omega, ⟨hl2.symm, by omega⟩, hR'.symm⟩
    · have : i = a + b := by omega
      subst this
      have hiw : ¬ (a : Int) + (b : Int) < (ws.length : Int) := by omega
      have hiw2 : ¬ a + b < ws.length := by omega
      have hrl2 := rws_len (enc := GShard.enc) (onH ws ps (a + b))
      have tH := tkE (enc := GShard.enc) (l := onH ws ps (a + b)) rfl
      have hge : ¬ (onH ws ps (a + b)).length < a := by omega
      generalize rws GShard.enc (onH ws ps (a + b)) = R0 at *
      generalize (onH ws ps (a + b)).length = l0 at *
      generalize a + b = ab at *
      simp [tm, hiw, hiw2, hge, hrl2, tH, rcall124, bk2, storeM, hrl, tR]
  · clear bk hdl
    have hltA := hlt
    clear hlt
    simp [F111]
    refine RunC_loop (fun i : Nat => ⟨tm 43 [(1, .rd true (rws encI ps)), (2, .ptr 0 0 0 [] 0 0), (4, .ptr 0 256 0 [] 0 0), (6, .sl 0 65536 0 [] 0 (onH ws ps i).length), (7, .int .i64 i)], [(0, some ⟨0, 5, true, false, [[.int .i64 a, .int .i64 b, .int .i64 u, .int .i64 n, .rd true (rws encT ws)]]⟩), (256, some ⟨0, 5, true, false, [[.int .i64 0, .int .i64 0, .int .i64 0, .int .i64 0, .sl 0 261 0 [] 0 0]]⟩), (261, some ⟨0, 1, false, true, []⟩), (65536, some ⟨0, 2, false, true, rws GShard.enc (onH ws ps i)⟩)], []⟩)
      (fun i => i ≤ a + b) (fun i => a + b - i) 0 (Nat.zero_le _) (by simp; omega) (by simp [tm, onH, keepN, rws]) fun i hi _ => ?_
    by_cases hlt : i < a + b
    · have hs := idx_succ' hlt (by omega)
      have hiw : i < ws.length := by omega
      have c1 := fun k => c k i
      have hob1 := hob i
      have hrl2 := rws_len (enc := GShard.enc) (onH ws ps i)
      cases hc : hasB ps i
      · rw [hc] at c1
        have hg : ws.getD i ByteArray.empty = ws[i] := by rw [List.getD_eq_getElem?_getD, List.getElem?_eq_getElem hiw]; rfl
        have hnew := onH_new (ws := ws) hc
        rw [hg] at hnew
        have hl2 : (onH ws ps (i + 1)).length = (onH ws ps i).length + 1 := by rw [onH_len, onH_len, keepN_succ, hc]; simp
        generalize hR' : rws GShard.enc (onH ws ps (i + 1)) = R' at *
        generalize rws GShard.enc (onH ws ps i) = R0 at *
        generalize hl0 : (onH ws ps i).length = l0 at *
        simp [tm, hiw, hs, encT, rcall143, c1, evalW, source, hrl2, hnew]
        exact ⟨⟨by omega, by omega⟩, i + 1, by omega, by omega, ⟨hl2.symm, by omega⟩, hR'.symm⟩
      · rw [hc] at c1
        have hsame := onH_has (ws := ws) hc
        have hl2 : (onH ws ps (i + 1)).length = (onH ws ps i).length := by rw [hsame]
        have hR' : rws GShard.enc (onH ws ps (i + 1)) = rws GShard.enc (onH ws ps i) := by rw [hsame]
        generalize hl0 : (onH ws ps i).length = l0 at *
        generalize rws GShard.enc (onH ws ps i) = R0 at *
        simp [tm, hiw, hs, encT, rcall143, c1]
        exact ⟨i + 1, by omega, by omega, ⟨hl2.symm, by omega⟩, hR'.symm⟩
    · have : i = a + b := by omega
      subst this
      have hiw : ¬ (a : Int) + (b : Int) < (ws.length : Int) := by omega
      have hiw2 : ¬ a + b < ws.length := by omega
      have hrl2 := rws_len (enc := GShard.enc) (onH ws ps (a + b))
      have tH := tkE (enc := GShard.enc) (l := onH ws ps (a + b)) rfl
      generalize rws GShard.enc (onH ws ps (a + b)) = R0 at *
      generalize (onH ws ps (a + b)).length = l0 at *
      generalize a + b = ab at *
      simp [tm, hiw, hiw2, hltA, hrl2, storeM]
end Go.Ae.C3
