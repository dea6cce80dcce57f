/- Which numbers and which intervals are good: the program's and the reference's. -/
import Derived.Test.YtbmpcjdfnainhaaD1M2
namespace Go.Ae.D1
set_option linter.unusedSimpArgs false
set_option linter.unusedVariables false
set_option maxRecDepth 10000
@[simp] theorem evalW_callv (O : Oracle) (md : Nat → Mode) (st : St) (base : Nat) (x : X) (args : List X) (fl : Bool) : evalW O md st base (.callv x args fl) = match evalX st x with
    | .fn f caps => match md f with
      | .val => match callVal O st base f (evalXs st args ++ caps) fl with
        | some (v, n) => match addNews st n with
          | some st' => some (v, st')
          | none => none
        | none => none
      | .view => match callView O st f (evalXs st args ++ caps) with
        | some v => some (v, st)
        | none => none
      | .ref => callRef O st base f (evalXs st args ++ caps) fl
    | _ => none := rfl
theorem between (k : Nat) (a b c : Int) : call code (k + 1) 43 [.int .i64 a, .int .i64 b, .int .i64 c] [] = some ⟨.bool (inB a b c), [], []⟩ := by
  refine call_run rfl fn43 rfl ?_
  simp [F43]
  repeat' ((first | apply RunG_ncase | apply RunB_ncase | apply RunG_case | apply RunB_case | apply RunP_case) <;> intro h <;> simp [h])
  all_goals (simp_all [inB] <;> omega)
theorem l00In (k : Nat) (a b c : Int) : call code (k + 1) 58 [.int .i64 a, .int .i64 b, .int .i64 c] [] = some ⟨.bool (inB a b c), [], []⟩ := by
  refine call_run rfl fn58 rfl ?_
  simp [F58]
  repeat' ((first | apply RunG_ncase | apply RunB_ncase | apply RunG_case | apply RunB_case | apply RunP_case) <;> intro h <;> simp [h])
  all_goals (simp_all [inB] <;> omega)
/-- Where a number lies first. -/
def idxFrom : List Int → Int → Nat → Int
  | [], _, _ => -1
  | y :: r, x, i => if x = y then i else idxFrom r x (i + 1)
theorem idxFrom_has : ∀ (us : List Int) (x : Int) (i : Nat), decide (0 ≤ idxFrom us x i) = us.contains x
  | [], x, i => by simp [idxFrom]
  | y :: r, x, i => by
    unfold idxFrom
    by_cases h : x = y
    · simp [h]
    · rw [if_neg h, idxFrom_has r x (i + 1)]
      simp [h]
theorem index (k : Nat) (us : List Int) (x : Int) (hn : us.length ≤ 1000000000) : call code (k + 1) 118 [.rd true (rws encI us), .int .i64 x] [] = some ⟨.int .i64 (idxFrom us x 0), [], []⟩ := by
  refine call_run rfl fn118 rfl ?_
  simp [F118]
  refine RunC_loop (fun i : Nat => ⟨tm 19 [(0, .rd true (rws encI us)), (1, .int .i64 x), (7, .int .i64 us.length), (8, .int .i64 i)], [], []⟩)
    (fun i => i ≤ us.length ∧ idxFrom (us.drop i) x i = idxFrom us x 0) (fun i => us.length - i) 0 ⟨Nat.zero_le _, by simp⟩ (by simp; omega) (by simp [tm]) fun i hi _ => ?_
  obtain ⟨hi, hx⟩ := hi
  by_cases hlt : i < us.length
  · have hs := idx_succ' hlt (by omega)
    rw [List.drop_eq_getElem_cons hlt, idxFrom] at hx
    by_cases he : x = us[i]
    · rw [if_pos he] at hx
      have hd : (x == us[i]) = true := by simp [he]
      have hd2 : decide (x = us[i]) = true := by simp [he]
      rw [← hx]
      simp [tm, hlt, encI, he]
    · rw [if_neg he] at hx
      have hd : (x == us[i]) = false := by simp [he]
      simp [tm, hlt, encI, he, hd, hs]
      exact ⟨i + 1, ⟨by omega, hx⟩, by omega, by simp⟩
  · have : i = us.length := by omega
    subst this
    simp [idxFrom] at hx
    simp [tm, ← hx]
theorem contains (k : Nat) (us : List Int) (x : Int) (hn : us.length ≤ 1000000000) : call code (k + 2) 107 [.rd true (rws encI us), .int .i64 x] [] = some ⟨.bool (us.contains x), [], []⟩ := by
  refine call_run rfl fn107 rfl ?_
  have h := fun k => index k us x hn
  have h2 := idxFrom_has us x 0
  generalize idxFrom us x 0 = z at *
  generalize us.contains x = b at *
  simp [F107, rcall118, h, h2]
theorem has_take {us : List Int} {i : Nat} {x : Int} (h : i < us.length) : (us.take (i + 1)).contains x = ((us.take i).contains x || x == us[i]) := by
  rw [List.take_succ_eq_append_getElem h]
  simp only [List.contains_append, List.contains_cons, List.contains_nil, Bool.or_false]
theorem l00Has (k : Nat) (us : List Int) (x : Int) (hn : us.length ≤ 1000000000) : call code (k + 1) 111 [.rd true (rws encI us), .int .i64 x] [] = some ⟨.bool (us.contains x), [], []⟩ := by
  refine call_run rfl fn111 rfl ?_
  simp [F111]
  refine RunC_loop (fun i : Nat => ⟨tm 18 [(0, .rd true (rws encI us)), (1, .int .i64 x), (5, .int .i64 i)], [], []⟩)
    (fun i => i ≤ us.length ∧ (us.take i).contains x = false) (fun i => us.length - i) 0 ⟨Nat.zero_le _, by simp⟩ (by simp; omega) (by simp [tm]) fun i hi _ => ?_
  obtain ⟨hi, hx⟩ := hi
  by_cases hlt : i < us.length
  · have hs := idx_succ' hlt (by omega)
    have ht := has_take (x := x) hlt
    rw [hx, Bool.false_or] at ht
    by_cases he : us[i] = x
    · have hc : x ∈ us := by rw [← he]; exact List.getElem_mem hlt
      simp [tm, hlt, encI, he, hc]
    · have : (x == us[i]) = false := by simp; exact fun h => he h.symm
      rw [this] at ht
      have hd : (us[i] == x) = false := by simp [he]
      simp [tm, hlt, encI, he, hd, hs]
      exact ⟨i + 1, ⟨by omega, by simpa using ht⟩, by omega, by simp⟩
  · have : i = us.length := by omega
    subst this
    rw [List.take_length] at hx
    have hc : x ∉ us := by simpa using hx
    simp [tm, hc]
/-- Of those that act, the one at i is good. -/
def actG (us : List Int) (i : Nat) : Bool := inB (us.getD i 0) (-1) 15 && !(decide (0 ≤ us.getD i 0) && (us.take i).contains (us.getD i 0))
def actB (us : List Int) : Bool := (List.range us.length).all (actG us) && inB us.length 1 7
theorem all_false {f : Nat → Bool} {n i : Nat} (hi : i < n) (h : f i = false) : (List.range n).all f = false := by
  rw [List.all_eq_false]; exact ⟨i, List.mem_range.2 hi, by simp [h]⟩
theorem all_true {f : Nat → Bool} {n : Nat} (h : ∀ i, i < n → f i = true) : (List.range n).all f = true := by
  rw [List.all_eq_true]; exact fun i hi => h i (List.mem_range.1 hi)
theorem actingOk (k : Nat) (us : List Int) (hn : us.length ≤ 1000000000) : call code (k + 3) 84 [.rd true (rws encI us)] [] = some ⟨.bool (actB us), [], []⟩ := by
  refine call_run rfl fn84 rfl ?_
  have hbt := fun k a b c => between k a b c
  simp [F84]
  refine RunC_loop (fun i : Nat => ⟨tm 30 [(0, .rd true (rws encI us)), (5, .rd true (rws encI us)), (6, .int .i64 us.length), (7, .int .i64 i)], [], []⟩)
    (fun i => i ≤ us.length ∧ ∀ j, j < i → actG us j = true) (fun i => us.length - i) 0 ⟨Nat.zero_le _, fun j h => absurd h (by omega)⟩ (by simp; omega) (by simp [tm]) fun i hi _ => ?_
  obtain ⟨hi, hx⟩ := hi
  by_cases hlt : i < us.length
  · have hs := idx_succ' hlt (by omega)
    have hco := fun k => contains k (us.take i) us[i] (by simp; omega)
    have hgd : us.getD i 0 = us[i] := by rw [List.getD_eq_getElem?_getD, List.getElem?_eq_getElem hlt]; rfl
    have hag : actG us i = (inB us[i] (-1) 15 && !(decide (0 ≤ us[i]) && (us.take i).contains us[i])) := by unfold actG; rw [hgd]
    have hle : (i : Int) ≤ us.length := by omega
    have hall : ∀ x ∈ rws encI us, x.length = 1 := fun x hx => by
      simp only [rws, List.mem_map] at hx
      obtain ⟨z, _, rfl⟩ := hx
      rfl
    have hbad : actG us i = false → actB us = false := fun h => by unfold actB; rw [all_false hlt h]; rfl
    have hgood : actG us i = true → ∀ j, j < i + 1 → actG us j = true := fun h j hj => by
      rcases Nat.lt_succ_iff_lt_or_eq.1 hj with h1 | rfl
      · exact hx j h1
      · exact h
    have htk : (rws encI us).take i = rws encI (us.take i) := rws_take _ _ _
    generalize (us.take i).contains us[i] = cb at *
    generalize hz : us[i] = z at hco hag
    cases h1 : inB z (-1) 15
    · rw [h1] at hag
      have hb := hbad (by simpa using hag)
      simp [tm, hlt, encI, hz, rcall43, hbt, h1, hb]
    · cases h2 : decide (0 ≤ z)
      · rw [h1, h2] at hag
        have hg := hgood (by simpa using hag)
        simp [tm, hlt, encI, hz, rcall43, hbt, h1, h2, hs]
        exact ⟨i + 1, ⟨by omega, hg⟩, by omega, by simp⟩
      · cases h3 : cb
        · rw [h1, h2, h3] at hag
          have hg := hgood (by simpa using hag)
          rw [h3] at hco
          simp [tm, hlt, encI, hz, rcall43, hbt, h1, h2, hs, hle, hi, rcall107, hco]
          exact ⟨hall, i + 1, ⟨by omega, hg⟩, by omega, by simp⟩
        · rw [h1, h2, h3] at hag
          have hb := hbad (by simpa using hag)
          rw [h3] at hco
          simp [tm, hlt, encI, hz, rcall43, hbt, h1, h2, hs, hle, hi, rcall107, hco, hb]
          exact hall
  · have : i = us.length := by omega
    subst this
    have : actB us = inB us.length 1 7 := by unfold actB; rw [all_true hx]; rfl
    simp [tm, rcall43, hbt, this]
theorem l12Ok (k : Nat) (us : List Int) (hn : us.length ≤ 1000000000) : call code (k + 2) 81 [.rd true (rws encI us)] [] = some ⟨.bool (actB us), [], []⟩ := by
  refine call_run rfl fn81 rfl ?_
  by_cases hlen : us.length < 1
  · have hf : actB us = false := by
      have : inB (us.length : Int) 1 7 = false := by simp [inB]; omega
      unfold actB; rw [this]; simp
    have h0 : us.length = 0 := by omega
    simp [F81, h0, hf]
  by_cases hlen2 : 7 < us.length
  · have hf : actB us = false := by
      have : inB (us.length : Int) 1 7 = false := by simp [inB]; omega
      unfold actB; rw [this]; simp
    have d1 : decide ((us.length : Int) < 1) = false := by simp; omega
    have d2 : decide ((7 : Int) < (us.length : Int)) = true := by simp; omega
    simp [F81, d1, d2, hf]
  have hin : inB (us.length : Int) 1 7 = true := by simp [inB]; omega
  have d1 : decide ((us.length : Int) < 1) = false := by simp; omega
  have d2 : decide ((7 : Int) < (us.length : Int)) = false := by simp; omega
  have hbt := fun k a b c => l00In k a b c
  simp [F81, d1, d2]
  refine RunC_loop (fun i : Nat => ⟨tm 41 [(0, .rd true (rws encI us)), (3, .int .i64 i)], [], []⟩)
    (fun i => i ≤ us.length ∧ ∀ j, j < i → actG us j = true) (fun i => us.length - i) 0 ⟨Nat.zero_le _, fun j h => absurd h (by omega)⟩ (by simp; omega) (by simp [tm]) fun i hi _ => ?_
  obtain ⟨hi, hx⟩ := hi
  by_cases hlt : i < us.length
  · have hs := idx_succ' hlt (by omega)
    have hco := fun k => l00Has k (us.take i) us[i] (by simp; omega)
    have hgd : us.getD i 0 = us[i] := by rw [List.getD_eq_getElem?_getD, List.getElem?_eq_getElem hlt]; rfl
    have hag : actG us i = (inB us[i] (-1) 15 && !(decide (0 ≤ us[i]) && (us.take i).contains us[i])) := by unfold actG; rw [hgd]
    have hle : (i : Int) ≤ us.length := by omega
    have hall : ∀ x ∈ rws encI us, x.length = 1 := fun x hx => by
      simp only [rws, List.mem_map] at hx
      obtain ⟨z, _, rfl⟩ := hx
      rfl
    have hbad : actG us i = false → actB us = false := fun h => by unfold actB; rw [all_false hlt h]; rfl
    have hgood : actG us i = true → ∀ j, j < i + 1 → actG us j = true := fun h j hj => by
      rcases Nat.lt_succ_iff_lt_or_eq.1 hj with h1 | rfl
      · exact hx j h1
      · exact h
    generalize (us.take i).contains us[i] = cb at *
    generalize hz : us[i] = z at hco hag
    cases h1 : inB z (-1) 15
    · rw [h1] at hag
      have hb := hbad (by simpa using hag)
      simp [tm, hlt, encI, hz, rcall58, hbt, h1, hb]
    · cases h2 : decide (0 ≤ z)
      · rw [h1, h2] at hag
        have hg := hgood (by simpa using hag)
        simp [tm, hlt, encI, hz, rcall58, hbt, h1, h2, hs]
        exact ⟨i + 1, ⟨by omega, hg⟩, by omega, by simp⟩
      · cases h3 : cb
        · rw [h1, h2, h3] at hag
          have hg := hgood (by simpa using hag)
          rw [h3] at hco
          simp [tm, hlt, encI, hz, rcall58, hbt, h1, h2, hs, hle, hi, rcall111, hco]
          exact ⟨hall, i + 1, ⟨by omega, hg⟩, by omega, by simp⟩
        · rw [h1, h2, h3] at hag
          have hb := hbad (by simpa using hag)
          rw [h3] at hco
          simp [tm, hlt, encI, hz, rcall58, hbt, h1, h2, hs, hle, hi, rcall111, hco, hb]
          exact hall
  · have : i = us.length := by omega
    subst this
    have : actB us = true := by unfold actB; rw [all_true hx, hin]; rfl
    simp [tm, this]
end Go.Ae.D1
