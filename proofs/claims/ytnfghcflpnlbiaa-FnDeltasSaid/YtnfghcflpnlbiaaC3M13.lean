/- Places lost: rising, within; what is on hand. -/
import Derived.Test.YtnfghcflpnlbiaaC3M5
import Derived.Test.YtnfghcflpnlbiaaC3M10
namespace Go.Ae.C3
set_option linter.unusedSimpArgs false
set_option linter.unusedVariables false
def hasB (ps : List Int) (x : Int) : Bool := ps.any fun y => x == y
def fallB (ps : List Int) (i : Nat) : Bool := decide (ps.getD i 0 ≤ ps.getD (i - 1) 0)
def incB (ps : List Int) : Bool := (List.range ps.length).all fun i => !(decide (0 < i) && fallB ps i)
def outB (h : Int) (x : Int) : Bool := !inB x 0 h
theorem getDi {ps : List Int} {i : Nat} (h : i < ps.length) : ps.getD i 0 = ps[i] := by rw [List.getD_eq_getElem?_getD, List.getElem?_eq_getElem h]; rfl
theorem incB_false {ps : List Int} {i : Nat} (hi : i < ps.length) (h0 : 0 < i) (h : fallB ps i = true) : incB ps = false := by
  unfold incB; rw [List.all_eq_false]; exact ⟨i, List.mem_range.2 hi, by simp [h, h0]⟩
theorem incB_true {ps : List Int} (h : ∀ i, i < ps.length → 0 < i → fallB ps i = false) : incB ps = true := by
  unfold incB; rw [List.all_eq_true]; intro i hi
  by_cases h0 : 0 < i
  · rw [h i (List.mem_range.1 hi) h0]; simp
  · simp [h0]
end Go.Ae.C3
namespace Go.Ae.C3
set_option linter.unusedSimpArgs false
set_option linter.unusedVariables false
def badR (h : Int) (ps : List Int) (i : Nat) : Bool := outB h (ps.getD i 0) || (decide (0 < i) && fallB ps i)
def risB (h : Int) (ps : List Int) : Bool := (List.range ps.length).all fun i => !badR h ps i
theorem risB_false {h : Int} {ps : List Int} {i : Nat} (hi : i < ps.length) (hb : badR h ps i = true) : risB h ps = false := by
  unfold risB; rw [List.all_eq_false]; exact ⟨i, List.mem_range.2 hi, by simp [hb]⟩
theorem risB_true {h : Int} {ps : List Int} (hb : ∀ i, i < ps.length → badR h ps i = false) : risB h ps = true := by
  unfold risB; rw [List.all_eq_true]; intro i hi; rw [hb i (List.mem_range.1 hi)]; rfl
theorem risB_eq (h : Int) (ps : List Int) : risB h ps = (incB ps && !ps.any (outB h)) := by
  cases hr : risB h ps
  · unfold risB at hr
    rw [List.all_eq_false] at hr
    obtain ⟨i, hi, hb⟩ := hr
    have hi := List.mem_range.1 hi
    have hb : badR h ps i = true := by simpa using hb
    rw [badR, getDi hi, Bool.or_eq_true, Bool.and_eq_true] at hb
    rcases hb with h1 | ⟨h1, h2⟩
    · have : ps.any (outB h) = true := any_true hi h1
      simp [this]
    · have := incB_false hi (of_decide_eq_true h1) h2
      simp [this]
  · have hb : ∀ i, i < ps.length → badR h ps i = false := fun i hi => by
      cases hb : badR h ps i
      · rfl
      · rw [risB_false hi hb] at hr; cases hr
    have h1 : incB ps = true := incB_true fun i hi h0 => by
      have := hb i hi
      simp [badR, h0] at this
      exact this.2
    have h2 : ps.any (outB h) = false := any_false fun i hi => by
      have := hb i hi
      rw [badR, getDi hi] at this
      simp only [Bool.or_eq_false_iff] at this
      exact this.1
    rw [h1, h2]; rfl
/-- The places that are left. -/
def keepN (ps : List Int) (i : Nat) : List Nat := (List.range i).filter fun j => !hasB ps j
theorem keepN_succ (ps : List Int) (i : Nat) : keepN ps (i + 1) = keepN ps i ++ if hasB ps i then [] else [i] := by
  unfold keepN
  rw [List.range_succ, List.filter_append]
  cases h : hasB ps i <;> simp [h]
theorem keepN_lt {ps : List Int} {i j : Nat} (h : j ∈ keepN ps i) : j < i := by
  simp [keepN] at h; exact h.1
theorem keepN_inc (ps : List Int) (n : Nat) : ∀ i j (hi : i < j) (hj : j < (keepN ps n).length), (keepN ps n)[i] < (keepN ps n)[j] := by
  have : List.Pairwise (· < ·) (keepN ps n) := List.Pairwise.filter _ List.pairwise_lt_range
  intro i j hi hj
  exact List.pairwise_iff_getElem.1 this i j (by omega) hj hi
def below (ps : List Int) (n : Nat) : Nat := ps.countP fun x => decide (x < (n : Int))
theorem below_succ {ps : List Int} (hp : List.Pairwise (· < ·) ps) (h0 : ∀ x ∈ ps, (0 : Int) ≤ x) (n : Nat) : below ps (n + 1) = below ps n + if hasB ps n then 1 else 0 := by
  unfold below hasB
  induction ps with
  | nil => rfl
  | cons x r ih =>
    rw [List.pairwise_cons] at hp
    have ih := ih hp.2 fun y hy => h0 y (List.mem_cons_of_mem _ hy)
    rw [List.countP_cons, List.countP_cons, ih, List.any_cons]
    by_cases h1 : (n : Int) = x
    · have h2 : r.any (fun y => (n : Int) == y) = false := by
        rw [List.any_eq_false]; intro y hy
        have := hp.1 y hy
        simp; omega
      have e1 : decide (x < ((n + 1 : Nat) : Int)) = true := by simp; omega
      have e2 : decide (x < (n : Int)) = false := by simp; omega
      have e3 : ((n : Int) == x) = true := by simp [h1]
      rw [h2, e1, e2, e3]; simp
    · have e1 : decide (x < ((n + 1 : Nat) : Int)) = decide (x < (n : Int)) := by apply decide_eq_decide.2; omega
      have e3 : ((n : Int) == x) = false := by simpa using h1
      rw [e1, e3]; simp; omega
theorem keepN_len {ps : List Int} (hp : List.Pairwise (· < ·) ps) (h0 : ∀ x ∈ ps, (0 : Int) ≤ x) : ∀ n, (keepN ps n).length + below ps n = n
  | 0 => by
    have : below ps 0 = 0 := by
      unfold below
      rw [List.countP_eq_zero]
      intro x hx
      have := h0 x hx
      simp; omega
    rw [this]; rfl
  | n + 1 => by
    have ih := keepN_len hp h0 n
    rw [keepN_succ, below_succ hp h0, List.length_append]
    cases h : hasB ps n <;> simp <;> omega
theorem incB_pair : ∀ {ps : List Int}, incB ps = true → List.Pairwise (· < ·) ps := by
  intro ps h
  have hh : ∀ i, i + 1 < ps.length → ps.getD i 0 < ps.getD (i + 1) 0 := fun i hi => by
    unfold incB at h
    rw [List.all_eq_true] at h
    have := h (i + 1) (List.mem_range.2 hi)
    simp [fallB] at this
    rw [List.getD_eq_getElem?_getD, List.getD_eq_getElem?_getD]
    exact this
  have hg : ∀ d i, i + d + 1 < ps.length → ps.getD i 0 < ps.getD (i + d + 1) 0 := fun d => by
    induction d with
    | zero => intro i hi; exact hh i hi
    | succ d ih => intro i hi; exact Int.lt_trans (ih i (by omega)) (hh (i + d + 1) (by omega))
  rw [List.pairwise_iff_getElem]
  intro i j hi hj hij
  have := hg (j - i - 1) i (by omega)
  have e : i + (j - i - 1) + 1 = j := by omega
  rw [e, getDi hi, getDi hj] at this
  exact this
/-- As many are left as are not lost. -/
theorem keepN_count {ps : List Int} {n : Nat} (h1 : incB ps = true) (h2 : ps.any (outB ((n : Int) - 1)) = false) : (keepN ps n).length + ps.length = n := by
  have hin : ∀ x ∈ ps, 0 ≤ x ∧ x < n := fun x hx => by
    rw [List.any_eq_false] at h2
    have := h2 x hx
    simp [outB, inB] at this
    omega
  have h := keepN_len (incB_pair h1) (fun x hx => (hin x hx).1) n
  have : below ps n = ps.length := by
    unfold below
    rw [List.countP_eq_length]
    intro x hx
    simpa using (hin x hx).2
  omega
end Go.Ae.C3
namespace Go.Ae.C3
set_option linter.unusedSimpArgs false
set_option linter.unusedVariables false
def onH (ws : List ByteArray) (ps : List Int) (i : Nat) : List GShard := (keepN ps i).map fun (j : Nat) => ⟨(j : Int), ws.getD j ByteArray.empty⟩
theorem onH_len (ws : List ByteArray) (ps : List Int) (i : Nat) : (onH ws ps i).length = (keepN ps i).length := by simp [onH]
theorem onH_le (ws : List ByteArray) (ps : List Int) (i : Nat) : (onH ws ps i).length ≤ i := by
  rw [onH_len]; unfold keepN
  exact Nat.le_trans (List.length_filter_le _ _) (by simp)
theorem onH_has {ws : List ByteArray} {ps : List Int} {i : Nat} (h : hasB ps i = true) : onH ws ps (i + 1) = onH ws ps i := by simp [onH, keepN_succ, h]
theorem onH_new {ws : List ByteArray} {ps : List Int} {i : Nat} (h : hasB ps i = false) : rws GShard.enc (onH ws ps i) ++ [[.int .i64 (i : Int), .str (ws.getD i ByteArray.empty)]] = rws GShard.enc (onH ws ps (i + 1)) := by
  simp [onH, keepN_succ, h, rws, GShard.enc]
theorem onH_get {ws : List ByteArray} {ps : List Int} {n i : Nat} (h : i < (onH ws ps n).length) : (onH ws ps n)[i] = ⟨(((keepN ps n)[i]'(by rwa [onH_len] at h) : Nat) : Int), ws.getD ((keepN ps n)[i]'(by rwa [onH_len] at h)) ByteArray.empty⟩ := by simp [onH]
theorem onH_haveF {a b u n : Nat} {ws : List ByteArray} (h : Wide a b u n ws) (ps : List Int) : HaveF a b (tallN a u n) (onH ws ps (a + b)) where
  a1 := ⟨h.a1, h.a4⟩
  b1 := h.b3
  pos := fun i hi => by
    rw [onH_get hi]
    have hk : i < (keepN ps (a + b)).length := by rwa [onH_len] at hi
    have := keepN_lt (List.getElem_mem hk)
    simp only
    omega
  inc := fun i j hi hj => by
    rw [onH_get hj, onH_get (by omega)]
    have := keepN_inc ps (a + b) i j hi (by rwa [onH_len] at hj)
    simp only
    omega
  len := fun i hi => by
    rw [onH_get hi]
    have hk : i < (keepN ps (a + b)).length := by rwa [onH_len] at hi
    have hl := keepN_lt (List.getElem_mem hk)
    have hw : (keepN ps (a + b))[i]'hk < ws.length := by rw [h.len]; exact hl
    simp only
    rw [List.getD_eq_getElem?_getD, List.getElem?_eq_getElem hw, Option.getD_some]
    exact h.all _ (List.getElem_mem hw)
theorem recD_cols {a b u n : Nat} {ws : List ByteArray} (h : Wide a b u n ws) {ps : List Int} (hl : a ≤ (onH ws ps (a + b)).length) : Cols a u n ((recD a b (tallN a u n) (onH ws ps (a + b))).map B) where
  a1 := h.a1
  a4 := h.a4
  u1 := h.u1
  u8 := h.u8
  n256 := h.n256
  len := by rw [List.length_map, recD_len (onH_haveF h ps) hl]; exact Nat.le_refl _
  all := fun s hs => by
    obtain ⟨l, hm, rfl⟩ := List.mem_map.1 hs
    rw [bsz, recD_all (onH_haveF h ps) hl l hm]
end Go.Ae.C3
