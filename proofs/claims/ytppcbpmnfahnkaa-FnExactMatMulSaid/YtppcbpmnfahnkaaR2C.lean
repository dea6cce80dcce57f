/- What compares, marks and looks again at rows of numbers. -/
import Derived.Test.YtppcbpmnfahnkaaR2B
namespace Go.Ae.R2
set_option linter.unusedSimpArgs false
set_option linter.unusedVariables false
@[simp] theorem heap_succ (ts : List AV) (l : Heap) (e : List Heap) (n : Nat) : St.heap ⟨ts, l, e⟩ (n + 1) = e.getD n [] := rfl
@[simp] theorem blk_one (ts : List AV) (l : Heap) (e : List Heap) (s : Nat) : St.blk ⟨ts, l, e⟩ 1 s = (match (e.getD 0 []).get s with | some (some b) => some b | _ => none) := rfl
@[simp] theorem blk_two (ts : List AV) (l : Heap) (e : List Heap) (s : Nat) : St.blk ⟨ts, l, e⟩ 2 s = (match (e.getD 1 []).get s with | some (some b) => some b | _ => none) := rfl
@[simp] theorem put_one (ts : List AV) (l l0 : Heap) (e : List Heap) (s : Nat) (b : Option Blk) : St.put ⟨ts, l, l0 :: e⟩ 1 s b = ⟨ts, l, l0.set s b :: e⟩ := rfl
@[simp] theorem put_two (ts : List AV) (l l0 l1 : Heap) (e : List Heap) (s : Nat) (b : Option Blk) : St.put ⟨ts, l, l0 :: l1 :: e⟩ 2 s b = ⟨ts, l, l0 :: l1.set s b :: e⟩ := rfl
attribute [simp] outR List.eraseDups List.eraseDupsBy List.eraseDupsBy.loop List.idxOf List.findIdx List.findIdx.go
def rowsZ (l : List Int) : List (List AV) := l.map fun n => [AV.int .i64 n]
theorem rowsZ_len (l : List Int) : (rowsZ l).length = l.length := by simp [rowsZ]
theorem rowsZ_at {l : List Int} {i : Nat} (h : i < l.length) (h' : i < (rowsZ l).length) : (rowsZ l)[i]'h' = [.int .i64 l[i]] := by simp [rowsZ]
theorem rowsZ_set (l : List Int) (i : Nat) (x : Int) : (rowsZ l).set i [.int .i64 x] = rowsZ (l.set i x) := by simp [rowsZ]
theorem set_set_same (s : Nat) (a b : Option Blk) : ∀ h : Heap, (h.set s a).set s b = h.set s b
  | [] => by simp [Heap.set]
  | (t, c) :: r => by
    simp only [Heap.set]
    by_cases h1 : s = t
    · rw [if_pos h1, if_pos h1]; simp [Heap.set]
    · rw [if_neg h1, if_neg h1]
      by_cases h2 : s < t
      · rw [if_pos h2, if_pos h2]; simp [Heap.set]
      · rw [if_neg h2, if_neg h2]; simp only [Heap.set]; rw [if_neg h1, if_neg h2, set_set_same]
theorem idx_succ {i n : Nat} (h : i < n) (hn : n ≤ 4000000) : IntKind.wrap .i64 ((i : Int) + 1) = ((i + 1 : Nat) : Int) := by rw [wrap64 ⟨by omega, by omega⟩]; omega

theorem eqInt64S (k : Nat) (ws : List Int) (hn : ws.length ≤ 4000000) : call code (k + 1) 32 [.rd true (rowsZ ws), .rd true (rowsZ ws)] [] = some ⟨.bool true, [], []⟩ := by
  refine call_run rfl fn32 rfl ?_
  simp [F32]
  refine RunC_loop (fun i : Nat => ⟨[.rd true (rowsZ ws), .rd true (rowsZ ws), .undef, .undef, .undef, .int .i64 i] ++ List.replicate 20 .undef, [], []⟩)
    (fun i => i ≤ ws.length) (fun i => ws.length - i) 0 (Nat.zero_le _) (by simp; omega) (by simp) fun i hi _ => ?_
  have hrl := rowsZ_len ws
  by_cases hlt : i < ws.length
  · have hg : ∀ h, (rowsZ ws)[i]'h = [AV.int .i64 ws[i]] := fun h => rowsZ_at hlt h
    have hs := idx_succ hlt hn
    simp [hlt, hrl, hg, hs]
    exact ⟨i + 1, by omega, by omega, rfl⟩
  · have : i = ws.length := by omega
    subst this
    simp [hrl]

def marks (k : Int) (n : Nat) : List Int := (List.range n).map fun (i : Nat) => k + (i : Int)
def mix (k : Int) (ws : List Int) (i : Nat) : List Int := marks k i ++ ws.drop i
theorem mix_len {k : Int} {ws : List Int} {i : Nat} (h : i ≤ ws.length) : (mix k ws i).length = ws.length := by simp [mix, marks]; omega
theorem mix_at {k : Int} {ws : List Int} {i : Nat} (h : i < ws.length) (h' : i < (mix k ws i).length) : (mix k ws i)[i] = ws[i] := by
  simp [mix, marks]
theorem mix_set {k : Int} {ws : List Int} {i : Nat} (h : i < ws.length) : (mix k ws i).set i (k + i) = mix k ws (i + 1) := by
  have hm : (marks k i).length = i := by simp [marks]
  unfold mix
  rw [List.set_append_right i _ (by omega), hm, Nat.sub_self]
  rw [List.drop_eq_getElem_cons h, List.set_cons_zero]
  simp [marks, List.range_succ]
theorem mix_all (k : Int) (ws : List Int) : mix k ws ws.length = marks k ws.length := by simp [mix]
/-- The heap when the first i are marked. -/
def hp (l : Heap) (S : Nat) (k : Int) (ws : List Int) (i : Nat) : Heap := if i = 0 then l else l.set S (some ⟨0, 1, false, true, rowsZ (mix k ws i)⟩)
theorem hp_get {l : Heap} {S : Nat} {k : Int} {ws : List Int} (h : l.get S = some (some ⟨0, 1, false, true, rowsZ ws⟩)) (i : Nat) : (hp l S k ws i).get S = some (some ⟨0, 1, false, true, rowsZ (mix k ws i)⟩) := by
  unfold hp
  split
  · rename_i h0; subst h0; simpa [mix, marks] using h
  · rw [get_set, if_pos rfl]
theorem hp_set {l : Heap} {S : Nat} {k : Int} {ws : List Int} (i : Nat) : (hp l S k ws i).set S (some ⟨0, 1, false, true, rowsZ (mix k ws (i + 1))⟩) = hp l S k ws (i + 1) := by
  unfold hp
  split
  · simp
  · rw [set_set_same]; simp

theorem markInt64S (k : Nat) (l0 l1 : Heap) (S : Nat) (ws : List Int) (c : Int) (hn : ws.length ≤ 4000000) (hc : 0 ≤ c ∧ c ≤ 4000000) (hl : l1.get S = some (some ⟨0, 1, false, true, rowsZ ws⟩)) :
    call code (k + 1) 33 [.sl 2 S 0 [] 0 ws.length, .int .i64 c] [l0, l1] = some ⟨.int .i64 (c + ws.length), [], [l0, hp l1 S c ws ws.length]⟩ := by
  refine call_run rfl fn33 rfl ?_
  simp [F33]
  refine RunC_loop (fun i : Nat => ⟨[.sl 2 S 0 [] 0 ws.length, .int .i64 (c + i), .undef, .undef, .undef, .int .i64 i] ++ List.replicate 13 .undef, [], [l0, hp l1 S c ws i]⟩)
    (fun i => i ≤ ws.length) (fun i => ws.length - i) 0 (Nat.zero_le _) (by simp; omega) (by simp [hp]) fun i hi _ => ?_
  have hg := hp_get (k := c) hl i
  have hml := mix_len (k := c) hi
  have hrl := rowsZ_len (mix c ws i)
  rw [hml] at hrl
  by_cases hlt : i < ws.length
  · have hlt' : i < (mix c ws i).length := by omega
    have hgi : ∀ h, (rowsZ (mix c ws i))[i]'h = [AV.int .i64 ((mix c ws i)[i])] := fun h => rowsZ_at hlt' h
    have hs := idx_succ hlt hn
    have hs2 : IntKind.wrap .i64 (c + (i : Int) + 1) = c + ((i + 1 : Nat) : Int) := by rw [wrap64 ⟨by omega, by omega⟩]; omega
    have hset : (rowsZ (mix c ws i)).set i [.int .i64 (c + (i : Int))] = rowsZ (mix c ws (i + 1)) := by rw [rowsZ_set, mix_set hlt]
    simp [hlt, hg, hrl, hgi, hs, hs2, hset, hp_set]
    exact ⟨i + 1, by omega, by omega, rfl, rfl⟩
  · have : i = ws.length := by omega
    subst this
    simp [hg]
theorem heldInt64S (k : Nat) (n : Nat) (c : Int) (hn : n ≤ 4000000) (hc : 0 ≤ c ∧ c ≤ 4000000) :
    call code (k + 1) 34 [.rd true (rowsZ (marks c n)), .int .i64 c] [] = some ⟨.int .i64 (c + n), [], []⟩ := by
  refine call_run rfl fn34 rfl ?_
  simp [F34]
  refine RunC_loop (fun i : Nat => ⟨[.rd true (rowsZ (marks c n)), .int .i64 (c + i), .undef, .undef, .undef, .int .i64 i] ++ List.replicate 15 .undef, [], []⟩)
    (fun i => i ≤ n) (fun i => n - i) 0 (Nat.zero_le _) (by simp; omega) (by simp) fun i hi _ => ?_
  have hrl : (rowsZ (marks c n)).length = n := by simp [rowsZ, marks]
  by_cases hlt : i < n
  · have hgi : ∀ h, (rowsZ (marks c n))[i]'h = [AV.int .i64 (c + (i : Int))] := fun h => by simp [rowsZ, marks]
    have hs := idx_succ hlt hn
    have hs2 : IntKind.wrap .i64 (c + (i : Int) + 1) = c + ((i + 1 : Nat) : Int) := by rw [wrap64 ⟨by omega, by omega⟩]; omega
    simp [hlt, hrl, hgi, hs, hs2]
    exact ⟨i + 1, by omega, by omega, rfl⟩
  · have : i = n := by omega
    subst this
    simp [hrl]
end Go.Ae.R2
