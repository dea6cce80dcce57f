/- Disks measured. -/
import Derived.Test.YtbnfbihdcpdkkaaR3A
namespace Go.Ae.R3
set_option linter.unusedSimpArgs false
set_option linter.unusedVariables false
def szF : Int → List Nat → Int
  | l, [] => l
  | l, s :: r => if l - (s : Int) < 0 then -1 else szF (l - s) r
theorem szF_le : ∀ {l : Int} {ws : List Nat}, 0 ≤ l → szF l ws ≤ l ∧ -1 ≤ szF l ws
  | l, [], h => ⟨Int.le_refl _, by simp [szF]; omega⟩
  | l, s :: r, h => by
    unfold szF
    split
    · omega
    · have := szF_le (l := l - s) (ws := r) (by omega); omega
def szR (l : Int) (ws : List Nat) : Int := if l - (ws.length : Int) < 0 then -1 else szF (l - ws.length) ws
theorem szR_ok {l : Int} {ws : List Nat} (hl : 0 ≤ l) (h : ¬ szR l ws < 0) : (ws.length : Int) ≤ l ∧ 0 ≤ szR l ws ∧ szR l ws ≤ l := by
  unfold szR at h ⊢
  split at h
  · omega
  · rename_i h1
    rw [if_neg h1]
    have := szF_le (l := l - ws.length) (ws := ws) (by omega)
    omega
def sizes (ws : List ByteArray) : List Nat := ws.map ByteArray.size
def sizesP (ws : List (Int × ByteArray)) : List Nat := ws.map fun p => p.2.size
theorem szStringS (k : Nat) (l : Int) (ws : List ByteArray) (hl : 0 ≤ l ∧ l ≤ 1048576) (hn : ws.length ≤ 140737488351232) (hs : ∀ s ∈ ws, s.size ≤ 140737488351232) :
    call code (k + 1) 25 [.rd true (rowsT ws), .int .i64 l] [] = some ⟨.int .i64 (szR l (sizes ws)), [], []⟩ := by
  refine call_run rfl fn25 rfl ?_
  have hrl := rowsT_len ws
  have hsl : (sizes ws).length = ws.length := by simp [sizes]
  have e1 : IntKind.wrap .i64 (l - (ws.length : Int)) = l - ws.length := wrap64 ⟨by omega, by omega⟩
  cases hd : decide (l - (ws.length : Int) < 0)
  · have hd' := of_decide_eq_false hd
    have hres : szR l (sizes ws) = szF (l - ws.length) (sizes ws) := by unfold szR; rw [hsl, if_neg hd']
    rw [hres]
    simp [F25, hrl, e1, hd]
    refine RunC_loop (fun q : Nat × Int => ⟨[.rd true (rowsT ws), .int .i64 q.2, .undef, .undef, .undef, .int .i64 q.1] ++ List.replicate 22 .undef, [], []⟩)
      (fun q => q.1 ≤ ws.length ∧ 0 ≤ q.2 ∧ q.2 ≤ l ∧ szF q.2 ((sizes ws).drop q.1) = szF (l - ws.length) (sizes ws)) (fun q => ws.length - q.1) (0, l - ws.length) ⟨Nat.zero_le _, by simp; omega, by simp; omega, by simp⟩ (by simp; omega) (by simp) fun q hq _ => ?_
    obtain ⟨i, c⟩ := q
    obtain ⟨h1, h2, h3, h4⟩ := hq
    simp only at h1 h2 h3 h4
    by_cases hlt : i < ws.length
    · have hg : ∀ h, (rowsT ws)[i]'h = [AV.str ws[i]] := fun h => rowsT_at hlt h
      have hz := hs ws[i] (List.getElem_mem hlt)
      have hi := idx_succ (i := i) (n := ws.length) hlt (by omega)
      have e2 : IntKind.wrap .i64 (c - (ws[i].size : Int)) = c - ws[i].size := wrap64 ⟨by omega, by omega⟩
      have hdr : (sizes ws).drop i = ws[i].size :: (sizes ws).drop (i + 1) := by
        rw [List.drop_eq_getElem_cons (by rw [hsl]; exact hlt)]; simp [sizes]
      rw [hdr, szF] at h4
      cases hd2 : decide (c - (ws[i].size : Int) < 0)
      · rw [if_neg (of_decide_eq_false hd2)] at h4
        have hd3 := of_decide_eq_false hd2
        simp [hlt, hrl, hg, e2, hd2, hi]
        exact ⟨i + 1, c - ws[i].size, ⟨by omega, by omega, by omega, h4⟩, by omega, rfl, by simp⟩
      · rw [if_pos (of_decide_eq_true hd2)] at h4
        simp [hlt, hrl, hg, e2, hd2, h4]
    · have : i = ws.length := by omega
      subst this
      rw [show (sizes ws).drop ws.length = [] by rw [← hsl, List.drop_length], szF] at h4
      simp [hrl, h4]
  · have hres : szR l (sizes ws) = -1 := by unfold szR; rw [hsl, if_pos (of_decide_eq_true hd)]
    simp [F25, hrl, e1, hd, hres]
theorem szPending (k : Nat) (l a : Int) (s : ByteArray) (hl : 0 ≤ l ∧ l ≤ 1048576) (hs : s.size ≤ 140737488351232) : call code (k + 1) 67 [.agg [.int .i64 a, .str s], .int .i64 l] [] = some ⟨.int .i64 (if l - (s.size : Int) < 0 then -1 else l - s.size), [], []⟩ := by
  refine call_run rfl fn67 rfl ?_
  have e1 : IntKind.wrap .i64 (l - (s.size : Int)) = l - s.size := wrap64 ⟨by omega, by omega⟩
  cases hd : decide (l - (s.size : Int) < 0)
  · rw [if_neg (of_decide_eq_false hd)]; simp [F67, e1, hd]
  · rw [if_pos (of_decide_eq_true hd)]; simp [F67, e1, hd]
theorem szPendingS (k : Nat) (l : Int) (ws : List (Int × ByteArray)) (hl : 0 ≤ l ∧ l ≤ 1048576) (hn : ws.length ≤ 140737488351232) (hs : ∀ s ∈ ws, s.2.size ≤ 140737488351232) :
    call code (k + 2) 46 [.rd true (rowsP ws), .int .i64 l] [] = some ⟨.int .i64 (szR l (sizesP ws)), [], []⟩ := by
  refine call_run rfl fn46 rfl ?_
  have hrl := rowsP_len ws
  have hsl : (sizesP ws).length = ws.length := by simp [sizesP]
  have e1 : IntKind.wrap .i64 (l - (ws.length : Int)) = l - ws.length := wrap64 ⟨by omega, by omega⟩
  cases hd : decide (l - (ws.length : Int) < 0)
  · have hd' := of_decide_eq_false hd
    have hres : szR l (sizesP ws) = szF (l - ws.length) (sizesP ws) := by unfold szR; rw [hsl, if_neg hd']
    rw [hres]
    simp [F46, hrl, e1, hd]
    refine RunC_loop (fun q : Nat × Int => ⟨[.rd true (rowsP ws), .int .i64 q.2, .undef, .undef, .undef, .int .i64 q.1] ++ List.replicate 21 .undef, [], []⟩)
      (fun q => q.1 ≤ ws.length ∧ 0 ≤ q.2 ∧ q.2 ≤ l ∧ szF q.2 ((sizesP ws).drop q.1) = szF (l - ws.length) (sizesP ws)) (fun q => ws.length - q.1) (0, l - ws.length) ⟨Nat.zero_le _, by simp; omega, by simp; omega, by simp⟩ (by simp; omega) (by simp) fun q hq _ => ?_
    obtain ⟨i, c⟩ := q
    obtain ⟨h1, h2, h3, h4⟩ := hq
    simp only at h1 h2 h3 h4
    by_cases hlt : i < ws.length
    · have hg : ∀ h, (rowsP ws)[i]'h = [AV.int .i64 ws[i].1, AV.str ws[i].2] := fun h => rowsP_at hlt h
      have hz := hs ws[i] (List.getElem_mem hlt)
      have hi := idx_succ (i := i) (n := ws.length) hlt (by omega)
      have hp := fun k => szPending k c ws[i].1 ws[i].2 ⟨h2, by omega⟩ hz
      have hdr : (sizesP ws).drop i = ws[i].2.size :: (sizesP ws).drop (i + 1) := by
        rw [List.drop_eq_getElem_cons (by rw [hsl]; exact hlt)]; simp [sizesP]
      rw [hdr, szF] at h4
      cases hd2 : decide (c - (ws[i].2.size : Int) < 0)
      · have hd3 := of_decide_eq_false hd2
        rw [if_neg hd3] at h4
        simp only [if_neg hd3] at hp
        simp [hlt, hrl, hg, rcall67, hp, hd2, hi]
        exact ⟨i + 1, c - ws[i].2.size, ⟨by omega, by omega, by omega, h4⟩, by omega, rfl, by simp⟩
      · have hd3 := of_decide_eq_true hd2
        rw [if_pos hd3] at h4
        simp only [if_pos hd3] at hp
        simp [hlt, hrl, hg, rcall67, hp, ← h4]
    · have : i = ws.length := by omega
      subst this
      rw [show (sizesP ws).drop ws.length = [] by rw [← hsl, List.drop_length], szF] at h4
      simp [hrl, h4]
  · have hres : szR l (sizesP ws) = -1 := by unfold szR; rw [hsl, if_pos (of_decide_eq_true hd)]
    simp [F46, hrl, e1, hd, hres]
theorem szDisk (k : Nat) (l : Int) (ss : List ByteArray) (ps : List (Int × ByteArray)) (hl : 0 ≤ l ∧ l ≤ 1048576) (h1 : ss.length ≤ 140737488351232) (h2 : ∀ s ∈ ss, s.size ≤ 140737488351232) (h3 : ps.length ≤ 140737488351232) (h4 : ∀ s ∈ ps, s.2.size ≤ 140737488351232) :
    ∃ r, call code (k + 3) 18 [.agg [.rd true (rowsT ss), .rd true (rowsP ps)], .int .i64 l] [] = some ⟨.int .i64 r, [], []⟩ ∧ (r < 0 ∨ (0 ≤ r ∧ r ≤ l ∧ (ss.length : Int) ≤ l ∧ (ps.length : Int) ≤ l)) := by
  have a1 := fun k => szStringS k l ss hl h1 h2
  cases hd : decide (szR l (sizes ss) < 0)
  · have hd' := szR_ok hl.1 (of_decide_eq_false hd)
    rw [show (sizes ss).length = ss.length by simp [sizes]] at hd'
    have a2 := fun k => szPendingS k (szR l (sizes ss)) ps ⟨hd'.2.1, by omega⟩ h3 h4
    cases he : decide (szR (szR l (sizes ss)) (sizesP ps) < 0)
    · have he' := szR_ok hd'.2.1 (of_decide_eq_false he)
      rw [show (sizesP ps).length = ps.length by simp [sizesP]] at he'
      refine ⟨_, call_run rfl fn18 rfl ?_, .inr ⟨he'.2.1, by omega, hd'.1, by omega⟩⟩
      simp [F18, rcall25, a1, hd, rcall46, a2, he]
    · refine ⟨-1, call_run rfl fn18 rfl ?_, .inl (by omega)⟩
      simp [F18, rcall25, a1, hd, rcall46, a2, he]
  · refine ⟨-1, call_run rfl fn18 rfl ?_, .inl (by omega)⟩
    simp [F18, rcall25, a1, hd]
end Go.Ae.R3
