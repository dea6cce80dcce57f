/- Intervals copied; found. -/
import Derived.Test.YtbmpcjdfnainhaaD1M4
import Derived.Test.YtbmpcjdfnainhaaAeL6
namespace Go.Ae.D1
set_option linter.unusedSimpArgs false
set_option linter.unusedVariables false
set_option maxRecDepth 10000
theorem all1 (us : List Int) : ∀ x ∈ rws encI us, x.length = 1 := fun x hx => by
  simp only [rws, List.mem_map] at hx
  obtain ⟨z, _, rfl⟩ := hx
  rfl
theorem l00Own (k : Nat) (us : List Int) (hn : us.length ≤ 1048576) : call code (k + 1) 82 [.rd true (rws encI us)] [] = some ⟨.sl 0 0 0 [] 0 us.length, [⟨0, 1, false, true, rws encI us⟩], []⟩ := by
  refine call_run rfl fn82 rfl ?_
  have h1 := all1 us
  have hl : (rws encI us).length = us.length := rws_len _ _
  generalize rws encI us = R at *
  simp [F82, evalW, source, hl]
  exact ⟨h1, by omega, by omega⟩
theorem cloneI (k : Nat) (us : List Int) (hn : us.length ≤ 1048576) : call code (k + 1) 85 [.rd true (rws encI us)] [] = some ⟨.sl 0 0 0 [] 0 us.length, [⟨0, 1, false, true, rws encI us⟩], []⟩ :=
  clone_ok (enc := encI) (sz := 1) (bytes := 8) (zero := [.int .i64 0]) rfl rfl (fun _ => rfl) (by omega) rfl rfl us (by omega) (by omega) k
/-- An interval of one's own. -/
def aggI (x : GIv) : AV := .agg [.int .i64 x.First, .int .i64 x.Last, .sl 0 0 0 [] 0 x.Acting.length, .bool x.May]
def blkI (x : GIv) : Blk := ⟨0, 1, false, true, rws encI x.Acting⟩
theorem own1 (k : Nat) (x : GIv) (hn : x.Acting.length ≤ 1048576) : call code (k + 2) 39 [.agg (GIv.enc x)] [] = some ⟨aggI x, [blkI x], []⟩ := by
  refine call_run rfl fn39 rfl ?_
  have h := fun k => l00Own k x.Acting hn
  simp [F39, GIv.enc, rcall82, h, evalW, aggI, blkI]
theorem clone1 (k : Nat) (x : GIv) (hn : x.Acting.length ≤ 1048576) : call code (k + 2) 45 [.agg (GIv.enc x)] [] = some ⟨aggI x, [blkI x], []⟩ := by
  refine call_run rfl fn45 rfl ?_
  have h := fun k => cloneI k x.Acting hn
  simp [F45, GIv.enc, rcall85, h, evalW, aggI, blkI]
/-- Where a version's interval lies. -/
def fndF (v : Int) : List GIv → Nat → Int
  | [], _ => -1
  | x :: r, i => if inB v x.First x.Last = true then i else fndF v r (i + 1)
theorem fndF_bound (v : Int) : ∀ (ws : List GIv) (i : Nat), fndF v ws i = -1 ∨ ((i : Int) ≤ fndF v ws i ∧ fndF v ws i < i + ws.length)
  | [], i => .inl rfl
  | x :: r, i => by
    unfold fndF
    split
    · right; simp; omega
    · rcases fndF_bound v r (i + 1) with h | h
      · exact .inl h
      · right; simp only [List.length_cons]; omega
theorem closAt (k : Nat) (x : GIv) (v : Int) : call code (k + 2) 42 [.agg (GIv.enc x), .rptr [.int .i64 v]] [] = some ⟨.bool (inB v x.First x.Last), [], []⟩ := by
  refine call_run rfl fn42 rfl ?_
  have h := fun k a b c => between k a b c
  simp [F42, GIv.enc, rcall43, h, evalW]
theorem indexFunc (k : Nat) (ws : List GIv) (v : Int) (hn : ws.length ≤ 1048576) : call code (k + 3) 41 [.rd false (rws GIv.enc ws), .fn 42 [.rptr [.int .i64 v]]] [] = some ⟨.int .i64 (fndF v ws 0), [], []⟩ := by
  refine call_run rfl fn41 rfl ?_
  have md42 : code.md 42 = .val := rfl
  simp [F41]
  refine RunC_loop (fun i : Nat => ⟨tm 19 [(0, .rd false (rws GIv.enc ws)), (1, .fn 42 [.rptr [.int .i64 v]]), (7, .int .i64 ws.length), (8, .int .i64 i)], [], []⟩)
    (fun i => i ≤ ws.length ∧ fndF v (ws.drop i) i = fndF v ws 0) (fun i => ws.length - i) 0 ⟨Nat.zero_le _, by simp⟩ (by simp; omega) (by simp [tm]) fun i hi _ => ?_
  obtain ⟨hi, hx⟩ := hi
  by_cases hlt : i < ws.length
  · have hs := idx_succ' hlt (by omega)
    rw [List.drop_eq_getElem_cons hlt, fndF] at hx
    have hc := fun k => closAt k ws[i] v
    simp only [GIv.enc] at hc
    cases he : inB v ws[i].First ws[i].Last
    · rw [he] at hx hc
      simp at hx
      simp [tm, hlt, GIv.enc, md42, hc, hs]
      exact ⟨i + 1, ⟨by omega, hx⟩, by omega, by simp⟩
    · rw [he] at hx hc
      simp at hx
      rw [← hx]
      simp [tm, hlt, GIv.enc, md42, hc]
  · have : i = ws.length := by omega
    subst this
    simp [fndF] at hx
    simp [tm, ← hx]
/-- What both answer. -/
def foundB (v : Int) (ws : List GIv) : Bool := ivB ws && decide (0 ≤ fndF v ws 0)
def foundI (v : Int) (ws : List GIv) : GIv := if foundB v ws = true then gi ws (fndF v ws 0).toNat else GIv.zero
def resI (x : GIv) (b : Bool) : Res := ⟨.tup [aggI x, .bool b], [blkI x], []⟩
theorem intervalAt (k : Nat) (ws : List GIv) (v : Int) (hn : ws.length ≤ 1048576) (hs : ∀ x ∈ ws, x.Acting.length ≤ 1048576) : call code (k + 5) 11 [.rd false (rws GIv.enc ws), .int .i64 v] [] = some (resI (foundI v ws) (foundB v ws)) := by
  refine call_run rfl fn11 rfl ?_
  have h1 := fun k => indexFunc k ws v hn
  have h2 := fun k => intervalsOk k ws hn hs
  have hb := fndF_bound v ws 0
  unfold foundI foundB
  generalize hz : fndF v ws 0 = z at *
  cases c1 : ivB ws
  · rw [c1] at h2
    simp [F11, rcall41, h1, rcall44, h2, resI, aggI, blkI, GIv.zero, evalW]
  by_cases c2 : 0 ≤ z
  · have hzl : z.toNat < ws.length := by omega
    have hc := fun k => clone1 k (gi ws z.toNat) (by rw [gi_at hzl]; exact hs _ (List.getElem_mem hzl))
    have hR : ∀ h : z.toNat < (rws GIv.enc ws).length, (rws GIv.enc ws)[z.toNat]'h = GIv.enc (gi ws z.toNat) := fun h => by rw [rws_get, gi_at hzl]
    have hRl : (rws GIv.enc ws).length = ws.length := rws_len _ _
    obtain ⟨p, rfl⟩ : ∃ p : Nat, z = p := ⟨z.toNat, by omega⟩
    rw [c1] at h2
    simp only [Int.toNat_natCast] at hzl hc hR
    generalize hxx : gi ws p = x at *
    generalize rws GIv.enc ws = R at *
    simp only [GIv.enc, aggI, blkI] at hc hR
    have c3 : ¬ ((p : Int) < 0) := by omega
    simp [F11, rcall41, h1, rcall44, h2, c3, hzl, hRl, hR, rcall45, hc, hxx, resI, aggI, blkI, evalW]
  · rw [c1] at h2
    have c3 : z < 0 := by omega
    simp [F11, rcall41, h1, rcall44, h2, c2, c3, resI, aggI, blkI, GIv.zero, evalW]
theorem sIntervalAt (k : Nat) (ws : List GIv) (v : Int) (hn : ws.length ≤ 1048576) (hs : ∀ x ∈ ws, x.Acting.length ≤ 1048576) : call code (k + 5) 9 [.rd false (rws GIv.enc ws), .int .i64 v] [] = some (resI (foundI v ws) (foundB v ws)) := by
  refine call_run rfl fn9 rfl ?_
  have h2 := fun k => l13Ok k ws hn hs
  cases c1 : ivB ws
  · rw [c1] at h2
    have hf : foundB v ws = false := by unfold foundB; rw [c1]; rfl
    unfold foundI
    rw [hf]
    simp [F9, rcall38, h2, resI, aggI, blkI, GIv.zero, evalW]
  rw [c1] at h2
  simp [F9, rcall38, h2]
  refine RunC_loop (fun i : Nat => ⟨tm 39 [(0, .rd false (rws GIv.enc ws)), (1, .int .i64 v), (4, .ptr 0 0 0 [] 0 0), (6, .int .i64 i)], [(0, some ⟨0, 4, true, false, [[.int .i64 0, .int .i64 0, .sl 0 3 0 [] 0 0, .bool false]]⟩), (3, some ⟨0, 1, false, true, []⟩)], []⟩)
    (fun i => i ≤ ws.length ∧ fndF v (ws.drop i) i = fndF v ws 0) (fun i => ws.length - i) 0 ⟨Nat.zero_le _, by simp⟩ (by simp; omega) (by simp [tm]) fun i hi _ => ?_
  obtain ⟨hi, hx⟩ := hi
  by_cases hlt : i < ws.length
  · have hsi := idx_succ' hlt (by omega)
    rw [List.drop_eq_getElem_cons hlt, fndF] at hx
    have hR : ∀ h : i < (rws GIv.enc ws).length, (rws GIv.enc ws)[i]'h = GIv.enc (gi ws i) := fun h => by rw [rws_get, gi_at hlt]
    have hRl : (rws GIv.enc ws).length = ws.length := rws_len _ _
    have hc := fun k => own1 k (gi ws i) (by rw [gi_at hlt]; exact hs _ (List.getElem_mem hlt))
    have hfo : inB v ws[i].First ws[i].Last = true → foundB v ws = true ∧ foundI v ws = gi ws i := fun h => by
      rw [if_pos h] at hx
      have h1 : foundB v ws = true := by unfold foundB; rw [c1, ← hx]; simp
      refine ⟨h1, ?_⟩
      unfold foundI
      rw [if_pos h1, ← hx]; rfl
    have hgx : inB v ws[i].First ws[i].Last = inB v (gi ws i).First (gi ws i).Last := by rw [gi_at hlt]
    rw [hgx] at hx hfo
    generalize rws GIv.enc ws = R at *
    generalize hxx : gi ws i = x at *
    simp only [GIv.enc, aggI, blkI] at hc hR
    cases g1 : decide (x.First ≤ v)
    · have he : inB v x.First x.Last = false := by simp [inB] at g1 ⊢; intro h; omega
      rw [he] at hx
      simp at hx
      simp [tm, hlt, hRl, hR, g1, hsi]
      exact ⟨i + 1, ⟨by omega, hx⟩, by omega, by simp⟩
    cases g2 : decide (v ≤ x.Last)
    · have he : inB v x.First x.Last = false := by simp [inB] at g1 g2 ⊢; intro h; omega
      rw [he] at hx
      simp at hx
      simp [tm, hlt, hRl, hR, g1, g2, hsi]
      exact ⟨i + 1, ⟨by omega, hx⟩, by omega, by simp⟩
    · have he : inB v x.First x.Last = true := by simp [inB] at g1 g2 ⊢; omega
      obtain ⟨k1, k2⟩ := hfo he
      rw [k1, k2]
      simp [tm, hlt, hRl, hR, g1, g2, rcall39, hc, resI, aggI, blkI, evalW]
  · have : i = ws.length := by omega
    subst this
    simp [fndF] at hx
    have hf : foundB v ws = false := by unfold foundB; rw [← hx]; simp
    unfold foundI
    rw [hf]
    simp [tm, resI, aggI, blkI, GIv.zero, evalW]
end Go.Ae.D1
