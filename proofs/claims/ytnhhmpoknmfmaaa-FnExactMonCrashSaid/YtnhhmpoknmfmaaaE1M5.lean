/- Monitors copied, the program's and the reference's. -/
import Derived.Test.YtnhhmpoknmfmaaaE1M4
import Derived.Test.YtnhhmpoknmfmaaaAeL6
namespace Go.Ae.E1
set_option linter.unusedSimpArgs false
set_option linter.unusedVariables false
set_option maxRecDepth 10000
theorem cloneS (k : Nat) (l : List GSlot) (hl : l.length ≤ 1048576) : call code (k + 1) 74 [.rd true (rws GSlot.enc l)] [] = some ⟨.sl 0 0 0 [] 0 l.length, [⟨0, 9, false, true, rws GSlot.enc l⟩], []⟩ :=
  clone_ok (sz := 9) (bytes := 72) (zero := [.int .i64 0, .int .i64 0, .int .i64 0, .int .i64 0, .int .i64 0, .int .i64 0, .int .i64 0, .int .i64 0, .int .i64 0]) rfl rfl (fun _ => rfl) (by omega) rfl rfl l (by omega) (by omega) k
theorem cloneI (k : Nat) (l : List Int) (hl : l.length ≤ 1048576) : call code (k + 1) 75 [.rd true (rws encI l)] [] = some ⟨.sl 0 0 0 [] 0 l.length, [⟨0, 1, false, true, rws encI l⟩], []⟩ :=
  clone_ok (sz := 1) (bytes := 8) (zero := [.int .i64 0]) rfl rfl (fun _ => rfl) (by omega) rfl rfl l (by omega) (by omega) k
theorem l00Own (k : Nat) (l : List Int) (hl : l.length ≤ 1048576) : call code (k + 1) 88 [.rd true (rws encI l)] [] = some ⟨.sl 0 0 0 [] 0 l.length, [⟨0, 1, false, true, rws encI l⟩], []⟩ := by
  refine call_run rfl fn88 rfl ?_
  have hb : (l.length : Int) * 8 ≤ 140737488355328 := by omega
  have hn : l.length * 8 ≤ 140737488355328 := by omega
  have hn2 : l.length ≤ 140737488355328 := by omega
  have ha := rws_all encI (sz := 1) (fun _ => rfl) l
  simp [F88, evalW, source, hb, hn, hn2, ha]
def GMn.out (m : GMn) : Res := ⟨.agg [.int .i64 m.id, .int .i64 m.many, .sl 0 0 0 [] 0 m.sl.length, .int .i64 m.te, .int .i64 m.bn, .int .i64 m.bb, .int .i64 m.ie, .int .i64 m.ik, .int .i64 m.ia, .int .i64 m.ib, .int .i64 m.hn, .int .i64 m.hb, .sl 0 1 0 [] 0 m.ps.length, .sl 0 2 0 [] 0 m.as.length, .bool m.dc], [⟨0, 9, false, true, rws GSlot.enc m.sl⟩, ⟨0, 1, false, true, rws encI m.ps⟩, ⟨0, 1, false, true, rws encI m.as⟩], []⟩
set_option maxHeartbeats 4000000 in
theorem clone (k : Nat) (m : GMn) (hsl : m.sl.length ≤ 1048576) (hp : m.ps.length ≤ 1048576) (ha : m.as.length ≤ 1048576) : call code (k + 2) 43 [.agg m.enc] [] = some m.out := by
  refine call_run rfl fn43 rfl ?_
  have h1 := fun k => cloneS k m.sl hsl
  have h2 := fun k => cloneI k m.ps hp
  have h3 := fun k => cloneI k m.as ha
  simp [F43, GMn.enc, GMn.out, rcall74, rcall75, h1, h2, h3, storeM]
set_option maxHeartbeats 4000000 in
theorem l21Own (k : Nat) (m : GMn) (hsl : m.sl.length ≤ 1048576) (hp : m.ps.length ≤ 1048576) (ha : m.as.length ≤ 1048576) : call code (k + 2) 53 [.agg m.enc] [] = some m.out := by
  refine call_run rfl fn53 rfl ?_
  have h2 := fun k => l00Own k m.ps hp
  have h3 := fun k => l00Own k m.as ha
  have hn : m.sl.length * 72 ≤ 140737488355328 := by omega
  have hn2 : m.sl.length ≤ 140737488355328 := by omega
  have ha := rws_all GSlot.enc (sz := 9) (fun _ => rfl) m.sl
  simp [F53, GMn.enc, GMn.out, rcall88, h2, h3, storeM, evalW, source, hn, hn2, ha]
end Go.Ae.E1
namespace Go.Ae.E1
set_option linter.unusedSimpArgs false
set_option linter.unusedVariables false
set_option maxRecDepth 10000
def GMn.crash (m : GMn) : GMn := if m.ok then ⟨m.id, m.many, m.sl, 0, 0, 0, 0, 0, 0, 0, 0, 0, [], [], false⟩ else ⟨0, 0, [], 0, 0, 0, 0, 0, 0, 0, 0, 0, [], [], false⟩
theorem rws_nil {α : Type} {enc : α → List AV} : rws enc [] = [] := rfl
set_option maxHeartbeats 4000000 in
theorem sMonCrash (k : Nat) (m : GMn) (hsl : m.sl.length ≤ 1048576) (hp : m.ps.length ≤ 1048576) (ha : m.as.length ≤ 1048576) : call code (k + 9) 18 [.agg m.enc] [] = some m.crash.out := by
  refine call_run rfl fn18 rfl ?_
  have h1 := fun k => sMonOk k m hsl (by omega) (by omega)
  have h2 := fun k => l21Own k m hsl hp ha
  simp only [GMn.enc, GMn.out] at h1 h2
  unfold GMn.crash
  cases c : m.ok
  · rw [c] at h1
    simp [F18, GMn.enc, GMn.out, rcall14, h1, storeM, rws_nil]
  · rw [c] at h1
    simp [F18, GMn.enc, GMn.out, rcall14, h1, rcall53, h2, storeM, rws_nil]
set_option maxHeartbeats 4000000 in
theorem monCrash (k : Nat) (m : GMn) (hsl : m.sl.length ≤ 1048576) (hp : m.ps.length ≤ 1048576) (ha : m.as.length ≤ 1048576) : call code (k + 9) 20 [.agg m.enc] [] = some m.crash.out := by
  refine call_run rfl fn20 rfl ?_
  have h1 := fun k => monOk k m hsl (by omega) (by omega)
  have h2 := fun k => clone k m hsl hp ha
  simp only [GMn.enc, GMn.out] at h1 h2
  unfold GMn.crash
  cases c : m.ok
  · rw [c] at h1
    simp [F20, GMn.enc, GMn.out, rcall33, h1, storeM, rws_nil]
  · rw [c] at h1
    simp [F20, GMn.enc, GMn.out, rcall33, h1, rcall43, h2, storeM, rws_nil]
end Go.Ae.E1
namespace Go.Ae.E1
set_option linter.unusedSimpArgs false
set_option linter.unusedVariables false
theorem tkW {α : Type} {enc : α → List AV} {l : List α} {n : Nat} (h : l.length = n) : (rws enc l).take n = rws enc l := by subst h; exact rws_takeLen enc l
theorem crash_len (m : GMn) : m.crash.sl.length ≤ m.sl.length ∧ m.crash.ps.length ≤ m.ps.length ∧ m.crash.as.length ≤ m.as.length := by
  unfold GMn.crash; split <;> simp
set_option maxRecDepth 100000 in
set_option maxHeartbeats 64000000 in
theorem law6 (n : Nat) (m : GMn) (b1 : m.sl.length ≤ 140737488351232) (b2 : m.ps.length ≤ 140737488351232) (b3 : m.as.length ≤ 140737488351232) :
    call code (n + 12) 6 [.agg m.enc] [] = some ⟨.bool true, [], []⟩ := by
  refine call_run rfl fn6 rfl ?_
  have z1 := fun k => szMon k 1048576 m.id m.many m.sl m.te m.bn m.bb m.ie m.ik m.ia m.ib m.hn m.hb m.ps m.as m.dc (by omega) b1 b2 b3
  cases g1 : decide (szV 1048576 (m.sl.length + (m.ps.length + m.as.length)) < 0)
  rotate_left
  · obtain ⟨_, e1⟩ := szV_neg g1 (by omega)
    rw [e1] at z1
    simp [F6, GMn.enc, rcall17, z1]
  obtain ⟨a1, e1⟩ := szV_pos g1 (by omega)
  rw [e1] at z1 g1
  simp only [Int.natCast_add] at z1 g1
  have h1 : m.sl.length ≤ 1048576 := by omega
  have h2 : m.ps.length ≤ 1048576 := by omega
  have h3 : m.as.length ≤ 1048576 := by omega
  have hs := fun k => sMonCrash k m h1 h2 h3
  have hi := fun k => monCrash k m h1 h2 h3
  obtain ⟨c1, c2, c3⟩ := crash_len m
  generalize m.crash = r at *
  have t1 := fun k => toMon k m.id m.many m.sl m.te m.bn m.bb m.ie m.ik m.ia m.ib m.hn m.hb m.ps m.as m.dc h1 h2 h3
  have eg := fun k => eqMon k r.id r.many r.sl r.te r.bn r.bb r.ie r.ik r.ia r.ib r.hn r.hb r.ps r.as r.dc (by omega) (by omega) (by omega)
  have x1 := fun k => eqMon k m.id m.many m.sl m.te m.bn m.bb m.ie m.ik m.ia m.ib m.hn m.hb m.ps m.as m.dc (by omega) (by omega) (by omega)
  have m1 := fun k lv E S T U hlv ga gb gc na nb nc => markMon k lv E m.id m.many m.sl m.te m.bn m.bb m.ie m.ik m.ia m.ib m.hn m.hb m.ps m.as m.dc S T U 1 (by omega) hlv (by omega) (by omega) (by omega) ga gb gc na nb nc
  have m3 := fun k lv E S T U hlv ga gb gc na nb nc => markMon k lv E r.id r.many r.sl r.te r.bn r.bb r.ie r.ik r.ia r.ib r.hn r.hb r.ps r.as r.dc S T U 1 (by omega) hlv (by omega) (by omega) (by omega) ga gb gc na nb nc
  have hh := fun k => heldMon k r.id r.many r.sl.length r.te r.bn r.bb r.ie r.ik r.ia r.ib r.hn r.hb r.ps.length r.as.length r.dc 1 (by omega) (by omega) (by omega) (by omega)
  have p1 := fun (c : Int) (l : Heap) (S : Nat) (hh : l.set S (some ⟨0, 9, false, true, rws GSlot.enc m.sl⟩) = l) => hpm_all (enc := GSlot.enc) (sz := 9) (mk := GSlot.mkAt) (l := l) (S := S) (c := c) (ws := m.sl) hh
  have p2 := fun (c : Int) (l : Heap) (S : Nat) (hh : l.set S (some ⟨0, 1, false, true, rws encI m.ps⟩) = l) => hpm_all (enc := encI) (sz := 1) (mk := mkI) (l := l) (S := S) (c := c) (ws := m.ps) hh
  have p3 := fun (c : Int) (l : Heap) (S : Nat) (hh : l.set S (some ⟨0, 1, false, true, rws encI m.as⟩) = l) => hpm_all (enc := encI) (sz := 1) (mk := mkI) (l := l) (S := S) (c := c) (ws := m.as) hh
  have p4 := fun (c : Int) (l : Heap) (S : Nat) (hh : l.set S (some ⟨0, 9, false, true, rws GSlot.enc r.sl⟩) = l) => hpm_all (enc := GSlot.enc) (sz := 9) (mk := GSlot.mkAt) (l := l) (S := S) (c := c) (ws := r.sl) hh
  have p5 := fun (c : Int) (l : Heap) (S : Nat) (hh : l.set S (some ⟨0, 1, false, true, rws encI r.ps⟩) = l) => hpm_all (enc := encI) (sz := 1) (mk := mkI) (l := l) (S := S) (c := c) (ws := r.ps) hh
  have p6 := fun (c : Int) (l : Heap) (S : Nat) (hh : l.set S (some ⟨0, 1, false, true, rws encI r.as⟩) = l) => hpm_all (enc := encI) (sz := 1) (mk := mkI) (l := l) (S := S) (c := c) (ws := r.as) hh
  have k1 := tkW (enc := GSlot.enc) (l := m.sl) rfl
  have k2 := tkW (enc := encI) (l := m.ps) rfl
  have k3 := tkW (enc := encI) (l := m.as) rfl
  have k4 := tkW (enc := GSlot.enc) (l := r.sl) rfl
  have k5 := tkW (enc := encI) (l := r.ps) rfl
  have k6 := tkW (enc := encI) (l := r.as) rfl
  have k7 := fun c n => tkW (enc := GSlot.enc) (marks_len GSlot.mkAt c n)
  have k8 := fun c n => tkW (enc := encI) (marks_len mkI c n)
  have d1 : decide (1 + 9 * (m.sl.length : Int) + m.ps.length + m.as.length < 0) = false := by simp <;> omega
  have d2 : decide (1 + 9 * (r.sl.length : Int) + r.ps.length + r.as.length < 0) = false := by simp <;> omega
  obtain ⟨id, many, sl, te, bn, bb, ie, ik, ia, ib, hn, hb, ps, as, dc⟩ := m
  obtain ⟨id', many', sl', te', bn', bb', ie', ik', ia', ib', hn', hb', ps', as', dc'⟩ := r
  simp only [GMn.enc, GMn.out] at *
  simp (maxSteps := 20000000) [F6, rcall17, z1, g1, rcall19, t1, rcall18, hs, rcall20, hi, rcall21, eg, x1, rcall22, m1, m3, rcall23, hh, p1, p2, p3, p4, p5, p6, k1, k2, k3, k4, k5, k6, k7, k8, d1, d2]
theorem lawMonCrash (avs : List AV) (h : PFitsAll [(true, [.int .i64, .int .i64, .sl 72 [.int .i64, .int .i64, .int .i64, .int .i64, .int .i64, .int .i64, .int .i64, .int .i64, .int .i64], .int .i64, .int .i64, .int .i64, .int .i64, .int .i64, .int .i64, .int .i64, .int .i64, .int .i64, .sl 8 [.int .i64], .sl 8 [.int .i64], .bool])] avs) : ∃ n bs e, call code n 6 avs [] = some ⟨.bool true, bs, e⟩ := by
  obtain ⟨v0, r, rfl, h0, h⟩ := h.cons_inv
  obtain rfl := h.nil_inv
  obtain ⟨cs, rfl, f0⟩ := h0.agg_inv
  obtain ⟨_, _, rfl, c0, f0⟩ := f0.cons_inv
  obtain ⟨_, _, rfl, c1, f0⟩ := f0.cons_inv
  obtain ⟨_, _, rfl, c2, f0⟩ := f0.cons_inv
  obtain ⟨_, _, rfl, c3, f0⟩ := f0.cons_inv
  obtain ⟨_, _, rfl, c4, f0⟩ := f0.cons_inv
  obtain ⟨_, _, rfl, c5, f0⟩ := f0.cons_inv
  obtain ⟨_, _, rfl, c6, f0⟩ := f0.cons_inv
  obtain ⟨_, _, rfl, c7, f0⟩ := f0.cons_inv
  obtain ⟨_, _, rfl, c8, f0⟩ := f0.cons_inv
  obtain ⟨_, _, rfl, c9, f0⟩ := f0.cons_inv
  obtain ⟨_, _, rfl, c10, f0⟩ := f0.cons_inv
  obtain ⟨_, _, rfl, c11, f0⟩ := f0.cons_inv
  obtain ⟨_, _, rfl, c12, f0⟩ := f0.cons_inv
  obtain ⟨_, _, rfl, c13, f0⟩ := f0.cons_inv
  obtain ⟨_, _, rfl, c14, f0⟩ := f0.cons_inv
  obtain rfl := f0.nil_inv
  obtain ⟨a0, rfl, _⟩ := c0.i64_inv
  obtain ⟨a1, rfl, _⟩ := c1.i64_inv
  obtain ⟨x2, rfl, l2, r2⟩ := c2.sl_inv
  obtain ⟨sl, rfl, _⟩ := fitSlotS r2
  obtain ⟨a3, rfl, _⟩ := c3.i64_inv
  obtain ⟨a4, rfl, _⟩ := c4.i64_inv
  obtain ⟨a5, rfl, _⟩ := c5.i64_inv
  obtain ⟨a6, rfl, _⟩ := c6.i64_inv
  obtain ⟨a7, rfl, _⟩ := c7.i64_inv
  obtain ⟨a8, rfl, _⟩ := c8.i64_inv
  obtain ⟨a9, rfl, _⟩ := c9.i64_inv
  obtain ⟨a10, rfl, _⟩ := c10.i64_inv
  obtain ⟨a11, rfl, _⟩ := c11.i64_inv
  obtain ⟨x12, rfl, l12, r12⟩ := c12.sl_inv
  obtain ⟨ps, rfl, _⟩ := fitInt64S r12
  obtain ⟨x13, rfl, l13, r13⟩ := c13.sl_inv
  obtain ⟨as, rfl, _⟩ := fitInt64S r13
  obtain ⟨dc, rfl⟩ := c14.bool_inv
  rw [rws_len] at l2 l12 l13
  exact ⟨_, _, _, law6 0 ⟨a0, a1, sl, a3, a4, a5, a6, a7, a8, a9, a10, a11, ps, as, dc⟩ (by simp; omega) (by simp; omega) (by simp; omega)⟩
end Go.Ae.E1
