/- Rows of texts and of pending writes: copied, compared. -/
import Derived.Test.YtbnfbihdcpdkkaaR3Code
namespace Go.Ae.R3
set_option linter.unusedSimpArgs false
set_option linter.unusedVariables false
def rowsT (l : List ByteArray) : List (List AV) := l.map fun s => [AV.str s]
def rowsP (l : List (Int × ByteArray)) : List (List AV) := l.map fun p => [AV.int .i64 p.1, AV.str p.2]
theorem rowsT_len (l : List ByteArray) : (rowsT l).length = l.length := by simp [rowsT]
theorem rowsP_len (l : List (Int × ByteArray)) : (rowsP l).length = l.length := by simp [rowsP]
theorem rowsT_at {l : List ByteArray} {i : Nat} (h : i < l.length) (h' : i < (rowsT l).length) : (rowsT l)[i]'h' = [.str l[i]] := by simp [rowsT]
theorem rowsP_at {l : List (Int × ByteArray)} {i : Nat} (h : i < l.length) (h' : i < (rowsP l).length) : (rowsP l)[i]'h' = [.int .i64 l[i].1, .str l[i].2] := by simp [rowsP]
theorem rowsT_set (l : List ByteArray) (i : Nat) (x : ByteArray) : (rowsT l).set i [.str x] = rowsT (l.set i x) := by simp [rowsT]
theorem rowsP_set (l : List (Int × ByteArray)) (i : Nat) (x : Int) (y : ByteArray) : (rowsP l).set i [.int .i64 x, .str y] = rowsP (l.set i (x, y)) := by simp [rowsP]
/-- slices.Clone of rows that are only read. -/
theorem cloneS (k : Nat) (l : List ByteArray) (hn : l.length ≤ 4000000) : call code (k + 1) 66 [.rd true (rowsT l)] [] = some ⟨.sl 0 0 0 [] 0 l.length, [⟨0, 1, false, true, rowsT l⟩], []⟩ := by
  refine nil_run rfl fn66 rfl rfl ?_
  cases l with
  | nil => simp [F66, evalW, source, rowsT]
  | cons s l =>
    simp at hn
    simp [F66, evalW, source, rowsT]
    exact ⟨by omega, by omega⟩
theorem cloneP (k : Nat) (l : List (Int × ByteArray)) (hn : l.length ≤ 4000000) : call code (k + 1) 72 [.rd true (rowsP l)] [] = some ⟨.sl 0 0 0 [] 0 l.length, [⟨0, 2, false, true, rowsP l⟩], []⟩ := by
  refine nil_run rfl fn72 rfl rfl ?_
  cases l with
  | nil => simp [F72, evalW, source, rowsP]
  | cons s l =>
    simp at hn
    simp [F72, evalW, source, rowsP]
    exact ⟨by omega, by omega⟩
theorem idx_succ {i n : Nat} (h : i < n) (hn : n ≤ 4000000) : IntKind.wrap .i64 ((i : Int) + 1) = ((i + 1 : Nat) : Int) := by rw [wrap64 ⟨by omega, by omega⟩]; omega
theorem eqStringS (k : Nat) (ws : List ByteArray) (hn : ws.length ≤ 4000000) : call code (k + 1) 29 [.rd true (rowsT ws), .rd true (rowsT ws)] [] = some ⟨.bool true, [], []⟩ := by
  refine call_run rfl fn29 rfl ?_
  simp [F29]
  refine RunC_loop (fun i : Nat => ⟨[.rd true (rowsT ws), .rd true (rowsT ws), .undef, .undef, .undef, .int .i64 i] ++ List.replicate 20 .undef, [], []⟩)
    (fun i => i ≤ ws.length) (fun i => ws.length - i) 0 (Nat.zero_le _) (by simp; omega) (by simp) fun i hi _ => ?_
  have hrl := rowsT_len ws
  by_cases hlt : i < ws.length
  · have hg : ∀ h, (rowsT ws)[i]'h = [AV.str ws[i]] := fun h => rowsT_at hlt h
    have hs := idx_succ hlt hn
    simp [hlt, hrl, hg, hs]
    exact ⟨i + 1, by omega, by omega, by simp⟩
  · have : i = ws.length := by omega
    subst this
    simp [hrl]
theorem eqPending (k : Nat) (a : Int) (s : ByteArray) : call code (k + 1) 69 [.agg [.int .i64 a, .str s], .agg [.int .i64 a, .str s]] [] = some ⟨.bool true, [], []⟩ := by
  refine call_run rfl fn69 rfl ?_
  simp [F69]
theorem eqPendingS (k : Nat) (ws : List (Int × ByteArray)) (hn : ws.length ≤ 4000000) : call code (k + 2) 50 [.rd true (rowsP ws), .rd true (rowsP ws)] [] = some ⟨.bool true, [], []⟩ := by
  refine call_run rfl fn50 rfl ?_
  simp [F50]
  refine RunC_loop (fun i : Nat => ⟨[.rd true (rowsP ws), .rd true (rowsP ws), .undef, .undef, .undef, .int .i64 i] ++ List.replicate 21 .undef, [], []⟩)
    (fun i => i ≤ ws.length) (fun i => ws.length - i) 0 (Nat.zero_le _) (by simp; omega) (by simp) fun i hi _ => ?_
  have hrl := rowsP_len ws
  by_cases hlt : i < ws.length
  · have hg : ∀ h, (rowsP ws)[i]'h = [AV.int .i64 ws[i].1, AV.str ws[i].2] := fun h => rowsP_at hlt h
    have hs := idx_succ hlt hn
    simp [hlt, hrl, hg, hs, rcall69, eqPending]
    exact ⟨i + 1, by omega, by omega, by simp⟩
  · have : i = ws.length := by omega
    subst this
    simp [hrl]
def cpyT (ws : List ByteArray) (i : Nat) : List ByteArray := ws.take i ++ List.replicate (ws.length - i) ByteArray.empty
theorem cpyT_len {ws : List ByteArray} {i : Nat} (h : i ≤ ws.length) : (cpyT ws i).length = ws.length := by simp [cpyT]; omega
theorem cpyT_set {ws : List ByteArray} {i : Nat} (h : i < ws.length) : (cpyT ws i).set i ws[i] = cpyT ws (i + 1) := by
  unfold cpyT
  have hl : (ws.take i).length = i := by simp; omega
  rw [List.set_append_right i _ (by omega), hl, Nat.sub_self]
  obtain ⟨m, hm⟩ : ∃ m, ws.length - i = m + 1 := ⟨ws.length - i - 1, by omega⟩
  rw [hm, show ws.length - (i + 1) = m by omega, List.replicate_succ, List.set_cons_zero, List.take_succ_eq_append_getElem h]
  simp only [List.append_assoc, List.singleton_append]
theorem toStringS (k : Nat) (ws : List ByteArray) (hn : ws.length ≤ 1048576) : call code (k + 1) 27 [.rd true (rowsT ws)] [] = some ⟨.sl 0 0 0 [] 0 ws.length, [⟨0, 1, false, true, rowsT ws⟩], []⟩ := by
  refine call_run rfl fn27 rfl ?_
  have hrl := rowsT_len ws
  simp [F27, hrl, zeroRow]
  refine ⟨⟨by omega, by omega⟩, ?_⟩
  refine RunC_loop (fun i : Nat => ⟨[.rd true (rowsT ws), .undef, .undef, .sl 0 66048 0 [] 0 ws.length, .int .i64 i] ++ List.replicate 17 .undef, [(0, some ⟨0, 1, false, true, []⟩), (66048, some ⟨0, 1, false, true, rowsT (cpyT ws i)⟩)], []⟩)
    (fun i => i ≤ ws.length) (fun i => ws.length - i) 0 (Nat.zero_le _) (by simp; omega) (by simp [cpyT, rowsT]) fun i hi _ => ?_
  have hcl := cpyT_len hi
  have hrc := rowsT_len (cpyT ws i)
  rw [hcl] at hrc
  by_cases hlt : i < ws.length
  · have hg : ∀ h, (rowsT ws)[i]'h = [AV.str ws[i]] := fun h => rowsT_at hlt h
    have hg2 : ∀ h, (rowsT (cpyT ws i))[i]'h = [AV.str ((cpyT ws i)[i]'(by omega))] := fun h => rowsT_at _ h
    have hst : (rowsT (cpyT ws i)).set i [.str ws[i]] = rowsT (cpyT ws (i + 1)) := by rw [rowsT_set, cpyT_set hlt]
    have hs := idx_succ hlt (by omega)
    simp [hlt, hrl, hrc, hg, hg2, hst, hs]
    exact ⟨i + 1, by omega, by omega, by simp, rfl⟩
  · have : i = ws.length := by omega
    subst this
    have hc : cpyT ws ws.length = ws := by simp [cpyT]
    simp [hrl, hc]
theorem toPending (k : Nat) (a : Int) (s : ByteArray) : call code (k + 1) 68 [.agg [.int .i64 a, .str s]] [] = some ⟨.agg [.int .i64 a, .str s], [], []⟩ := by
  refine call_run rfl fn68 rfl ?_
  simp [F68]
def cpyP (ws : List (Int × ByteArray)) (i : Nat) : List (Int × ByteArray) := ws.take i ++ List.replicate (ws.length - i) (0, ByteArray.empty)
theorem cpyP_len {ws : List (Int × ByteArray)} {i : Nat} (h : i ≤ ws.length) : (cpyP ws i).length = ws.length := by simp [cpyP]; omega
theorem cpyP_set {ws : List (Int × ByteArray)} {i : Nat} (h : i < ws.length) : (cpyP ws i).set i ws[i] = cpyP ws (i + 1) := by
  unfold cpyP
  have hl : (ws.take i).length = i := by simp; omega
  rw [List.set_append_right i _ (by omega), hl, Nat.sub_self]
  obtain ⟨m, hm⟩ : ∃ m, ws.length - i = m + 1 := ⟨ws.length - i - 1, by omega⟩
  rw [hm, show ws.length - (i + 1) = m by omega, List.replicate_succ, List.set_cons_zero, List.take_succ_eq_append_getElem h]
  simp only [List.append_assoc, List.singleton_append]
theorem toPendingS (k : Nat) (ws : List (Int × ByteArray)) (hn : ws.length ≤ 1048576) : call code (k + 2) 49 [.rd true (rowsP ws)] [] = some ⟨.sl 0 0 0 [] 0 ws.length, [⟨0, 2, false, true, rowsP ws⟩], []⟩ := by
  refine call_run rfl fn49 rfl ?_
  have hrl := rowsP_len ws
  simp [F49, hrl, zeroRow]
  refine ⟨⟨by omega, by omega⟩, ?_⟩
  refine RunC_loop (fun i : Nat => ⟨[.rd true (rowsP ws), .undef, .undef, .sl 0 66048 0 [] 0 ws.length, .int .i64 i] ++ List.replicate 18 .undef, [(0, some ⟨0, 2, false, true, []⟩), (66048, some ⟨0, 2, false, true, rowsP (cpyP ws i)⟩)], []⟩)
    (fun i => i ≤ ws.length) (fun i => ws.length - i) 0 (Nat.zero_le _) (by simp; omega) (by simp [cpyP, rowsP]) fun i hi _ => ?_
  have hcl := cpyP_len hi
  have hrc := rowsP_len (cpyP ws i)
  rw [hcl] at hrc
  by_cases hlt : i < ws.length
  · have hg : ∀ h, (rowsP ws)[i]'h = [AV.int .i64 ws[i].1, AV.str ws[i].2] := fun h => rowsP_at hlt h
    have hg2 : ∀ h, (rowsP (cpyP ws i))[i]'h = [AV.int .i64 ((cpyP ws i)[i]'(by omega)).1, AV.str ((cpyP ws i)[i]'(by omega)).2] := fun h => rowsP_at _ h
    have hst : (rowsP (cpyP ws i)).set i [.int .i64 ws[i].1, .str ws[i].2] = rowsP (cpyP ws (i + 1)) := by rw [rowsP_set, ← cpyP_set hlt]
    have hs := idx_succ hlt (by omega)
    simp [hlt, hrl, hrc, hg, hg2, hst, hs, rcall68, toPending]
    exact ⟨i + 1, by omega, by omega, by simp, rfl⟩
  · have : i = ws.length := by omega
    subst this
    have hc : cpyP ws ws.length = ws := by simp [cpyP]
    simp [hrl, hc]
theorem toDisk (k : Nat) (ss : List ByteArray) (ps : List (Int × ByteArray)) (h1 : ss.length ≤ 1048576) (h2 : ps.length ≤ 1048576) :
    call code (k + 3) 20 [.agg [.rd true (rowsT ss), .rd true (rowsP ps)]] [] = some ⟨.agg [.sl 0 0 0 [] 0 ss.length, .sl 0 1 0 [] 0 ps.length], [⟨0, 1, false, true, rowsT ss⟩, ⟨0, 2, false, true, rowsP ps⟩], []⟩ := by
  refine call_run rfl fn20 rfl ?_
  simp [F20, rcall27, toStringS _ _ h1, rcall49, toPendingS _ _ h2]
theorem eqDisk (k : Nat) (ss : List ByteArray) (ps : List (Int × ByteArray)) (h1 : ss.length ≤ 4000000) (h2 : ps.length ≤ 4000000) :
    call code (k + 3) 21 [.agg [.rd true (rowsT ss), .rd true (rowsP ps)], .agg [.rd true (rowsT ss), .rd true (rowsP ps)]] [] = some ⟨.bool true, [], []⟩ := by
  refine call_run rfl fn21 rfl ?_
  simp [F21, rcall29, eqStringS _ _ h1, rcall50, eqPendingS _ _ h2]
end Go.Ae.R3
